/- The law TextBack. -/
import Derived.Test.YtidgahnamdhflaaDoorTbkA
import Derived.Test.YtidgahnamdhflaaDoorTbkB
import Derived.Test.YtidgahnamdhflaaDoorTbkM
import Derived.Test.YtidgahnamdhflaaDoorPrtJ
namespace Go.Proofs.YtidgahnamdhflaaDoor
open Go.RowKit Go.Shelf Fld Prt Psx
theorem lists_map (L : List ByteArray) : (lists L).map bs = L := by
  unfold lists
  rw [List.map_map]
  exact (List.map_congr_left fun y _ => bs_of y).trans (List.map_id _)
theorem SL.of_l {w : World} {b : Nat} {v : Value} {L : List ByteArray} (h : StrL w b v (lists L)) : SL w v L := by
  have h1 := strL_q h (S := fun g => g < w.heap.size) (fun g _ h => h)
  rw [lists_map] at h1
  exact SL.of_q h1 fun b h => h
theorem items_back (L : List ByteArray) (h : 0 < L.length) : itemsF (joinO L) 0 [] [] = .ok (lists L) := by
  cases L with
  | nil => exact absurd h (Nat.lt_irrefl 0)
  | cons a r => exact items_join (lists r) a.data.toList 0 []
theorem items_none : itemsF (joinO []) 0 [] [] = .ok [[]] := by
  have h : joinO [] = [] := rfl
  rw [h, it_nil]; rfl
theorem drop_byte (S : ByteArray) (i : Nat) (h : i < S.size) : S.data.toList.drop i = S[i] :: S.data.toList.drop (i + 1) := by
  have h1 : i < S.data.toList.length := by rw [len_eq]; exact h
  have h2 := getE_list S i h
  rw [List.getElem?_eq_getElem h1] at h2
  rw [List.drop_eq_getElem_cons h1, Option.some.inj h2]
set_option maxRecDepth 100000 in
set_option maxHeartbeats 16000000 in
theorem textBack_walk (p : Part) (u v : Value) (oa : Option Addr) (L : List ByteArray) (n cap : Nat) (w : World) (hT : ErrT w) (hR : PartR w.heap.size 8 w u v p) (hz : bkP p ≤ 1048576) (hn : L.length = n) (hn6 : n ≤ 9223372036854775807) (hS : StrsR w oa L) (hL : totN L ≤ 1048576) :
    Calls Tryd.prog 5 #[.agg #[.string p.name, u, v], .slice oa n cap] w fun e w' => e = .returned (.bool true) ∧ Below w.heap.size w w' := by
  have hJ := joinO_len L
  obtain ⟨LL, hLL, hLn⟩ : ∃ LL, itemsF (joinO L) 0 [] [] = .ok LL ∧ (0 < n → LL = lists L) := by
    by_cases h0 : 0 < n
    · exact ⟨_, items_back L (by omega), fun _ => rfl⟩
    · have : L = [] := List.length_eq_zero_iff.1 (by omega)
      subst this
      exact ⟨_, items_none, fun h => absurd h h0⟩
  obtain ⟨J, hJJ⟩ : ∃ J : ByteArray, (⟨(joinO L).toArray⟩ : ByteArray) = J := ⟨_, rfl⟩
  have hJl : J.data.toList = joinO L := by rw [← hJJ]
  have hJs : n ≤ 512 → J.size ≤ 4194304 := fun h => by rw [← len_eq, hJl]; omega
  have CJ : Hid (∀ w0, n ≤ 512 → StrsR w0 oa L → Calls Tryd.prog 14 #[.slice oa n cap] w0 fun e w' => e = .returned (.string J) ∧ Below w0.heap.size w0 w') := Lib.hid fun w0 h5 h => hJJ ▸ plainJoin_any oa L n cap w0 hn h h5 hL
  have CI : Hid (∀ w0, n ≤ 512 → ErrT w0 → Calls Tryd.prog 13 #[.string J] w0 (PIt (.ok LL) w0)) := Lib.hid fun w0 h5 h => by
    have := plainItems_any J w0 h (hJs h5)
    rw [hJl, hLL] at this
    exact this
  have CP : Hid (∀ w0, Below w.heap.size w w0 → Calls Tryd.prog 6 #[.agg #[.string p.name, u, v]] w0 fun e w' => e = .returned (.tuple #[.string ⟨(prL p).toArray⟩, .int .i64 (prE p)]) ∧ Below w0.heap.size w0 w') := Lib.hid fun w0 hb => plainPrint_any w.heap.size p u v w0 (hT.call hb) (hR.call hb) hb.size hz
  have CC : Hid (∀ w0, Below w.heap.size w w0 → Calls Tryd.prog 8 #[.agg #[.string p.name, u, v]] w0 fun e w' => e = .returned (.int .i64 (prE p)) ∧ Below w0.heap.size w0 w') := Lib.hid fun w0 hb => plainCheckP_any w.heap.size p u v w0 (hT.call hb) (hR.call hb) hb.size hz
  have HSL : Hid (SL w (.slice oa n cap) L) := Lib.hid (by
    refine ⟨oa, cap, by rw [hn], fun h0 => ?_⟩
    obtain ⟨a, rfl⟩ := hS.1 h0
    exact ⟨a, rfl, (hS.2 a rfl).1 h0, (hS.2 a rfl).2⟩)
  have HT := Lib.hid hT
  have HR := Lib.hid hR
  have HS := Lib.hid hS
  have HLN := Lib.hid hLn
  have HN := Lib.hid hn
  have HZ30 := Lib.hid (textP_len p)
  obtain ⟨⟨ol, cl, rfl⟩, op, cp, rfl⟩ := hR.forms
  obtain ⟨nl, hnl⟩ : ∃ x, p.lines.length = x := ⟨_, rfl⟩
  obtain ⟨np, hnp⟩ : ∃ x, p.parts.length = x := ⟨_, rfl⟩
  obtain ⟨nm, hnm⟩ : ∃ x, p.name = x := ⟨_, rfl⟩
  have HNM := Lib.hid hnm
  have HNL := Lib.hid hnl
  have HNP := Lib.hid hnp
  rw [hnm, hnl, hnp] at CP CC
  rw [hnl, hnp] at HR
  rw [hnm, hnl, hnp]
  have HBZ := Lib.hid hz
  clear hT hR hS hn hL hJ hLL hLn hJJ hJl hJs hnl hnp hnm hz
  by_cases h5 : 512 < n
  · go_enter Tryd.func5, Tryd.ntmps5
    go_wp2_with fail
    go_ret
    exact ⟨rfl, (Below.refl _ _).alloc (Nat.le_refl _) _⟩
  · have H5 : Hid (n ≤ 512) := Lib.hid (by omega)
    have HB0 := Lib.hid ((Below.refl w.heap.size w).alloc (Nat.le_refl _) (.cells #[.string nm, .slice ol nl cl, .slice op np cp] 25))
    go_enter Tryd.func5, Tryd.ntmps5
    go_upto_region 4 with (first
      | (go_at_call 14; (with_reducible refine (CJ.out _ H5.out (HS.out.call HB0.out)).mono ?_); rintro e w1 ⟨rfl, hb⟩; have HB1 := Lib.hid (thenB HB0.out hb); have HBA := Lib.hid hb; clear hb)
      | (go_at_call 13; (with_reducible refine (CI.out _ H5.out (HT.out.call HB1.out)).mono ?_); rintro e w2 ⟨hb, v1, rfl, h1⟩; have HB2 := Lib.hid (thenB HB1.out hb); have HBW1 := Lib.hid (thenB HBA.out hb); have H1 := Lib.hid h1; clear hb h1))
    obtain ⟨o1, c1, rfl⟩ := H1.out.form
    go_cut [37] from 25 to 36 (fun q wx => q = .bool false ∧ Hid (Below w2.heap.size w2 wx))
    case first =>
      by_cases h0 : 0 < n
      · have k0 : (0 : Int) < (n : Int) := by omega
        have hl := HLN.out h0
        have HQ : SL w2 (.slice o1 LL.length c1) L := by
          have h := H1.out
          rw [hl] at h ⊢
          exact SL.of_l h
        have CS : Hid (Calls Tryd.prog 15 #[.slice o1 LL.length c1, .slice oa n cap] w2 fun e w' => e = .returned (.bool true) ∧ Below w2.heap.size w2 w') := Lib.hid (sameK_any _ _ L w2 (by rw [HN.out]; have := H5.out; omega) HQ (HSL.out.call HB2.out))
        clear HQ hl
        go_wp2_with (go_at_call 15; (with_reducible refine CS.out.mono ?_); rintro e w3 ⟨rfl, hb⟩; have HB3 := Lib.hid hb; clear hb)
        go_meet
        exact ⟨rfl, HB3⟩
      · have k0 : ¬ (0 : Int) < (n : Int) := by omega
        go_wp2_with fail
        go_meet
        exact ⟨rfl, Lib.hid (Below.refl _ _)⟩
    case rest =>
      obtain ⟨rfl, HBx⟩ := hcut
      have HBC : Hid (Below w.heap.size w wc) := Lib.hid (thenB HB2.out HBx.out)
      have f0 : w.heap.size < wc.heap.size := Nat.lt_of_lt_of_le (by simp) (HBW1.out.trans (HBx.out.mono HBW1.out.size)).size
      have x0 : wc.cell? ⟨w.heap.size, 0, none⟩ = some (.string nm) := ((HBW1.out.trans (HBx.out.mono HBW1.out.size)).cell (p := ⟨w.heap.size, 0, none⟩) (by simp)).trans (by simp)
      have x1 : wc.cell? ⟨w.heap.size, 1, none⟩ = some (.slice ol nl cl) := ((HBW1.out.trans (HBx.out.mono HBW1.out.size)).cell (p := ⟨w.heap.size, 1, none⟩) (by simp)).trans (by simp)
      have x2 : wc.cell? ⟨w.heap.size, 2, none⟩ = some (.slice op np cp) := ((HBW1.out.trans (HBx.out.mono HBW1.out.size)).cell (p := ⟨w.heap.size, 2, none⟩) (by simp)).trans (by simp)
      clear H1 HLN HSL CJ CI HS HBW1
      by_cases hE : prE p = 0
      · have hS := prL_ok hE
        have hpp := parse_print (p := p) hE
        have hLW := LW_part (chk_good 8 0 p hE).1
        rw [hS, hE] at CP
        obtain ⟨S, hSS⟩ : ∃ S : ByteArray, (⟨(textP p).toArray⟩ : ByteArray) = S := ⟨_, rfl⟩
        have hSl : S.data.toList = textP p := by rw [← hSS]
        rw [hSS] at CP
        rw [← hSl] at hpp hLW
        have hSz : S.size ≤ 31457280 := by
          have h1 := HZ30.out
          have h2 := HBZ.out
          rw [← len_eq, hSl]
          omega
        have HPP := Lib.hid hpp
        have HLW := Lib.hid hLW
        clear hS hE hpp hLW hSS hSl CC
        go_wp2_with (go_at_call 6; (with_reducible refine (CP.out _ HBC.out).mono ?_); rintro e w4 ⟨rfl, hb⟩; have HB4 := Lib.hid (thenB HBC.out hb); have f4 := Nat.lt_of_lt_of_le f0 hb.size; have y0 := (hb.cell (p := ⟨w.heap.size, 0, none⟩) f0).trans x0; have y1 := (hb.cell (p := ⟨w.heap.size, 1, none⟩) f0).trans x1; have y2 := (hb.cell (p := ⟨w.heap.size, 2, none⟩) f0).trans x2; clear hb x0 x1 x2 f0)
        go_loop [10, 11] (fun a c => ∃ f i : Nat, a = .int .i64 (f : Int) ∧ c = .int .i64 (i : Int) ∧ f ≤ i ∧ i ≤ S.size ∧ Hid (LW (i - f) (S.data.toList.drop i))) (fun _ c => S.size - (intOf c).toNat)
        case atStart => exact ⟨0, 0, rfl, rfl, Nat.le_refl _, Nat.zero_le _, HLW⟩
        case round =>
          clear HLW
          obtain ⟨f, i, rfl, rfl, hfi, hi, HW⟩ := hrel
          by_cases his : i < S.size
          · have hd := HW.out
            rw [drop_byte S i his] at hd
            have i0 : (0 : Int) ≤ (i : Int) := by omega
            have i1 : (i : Int) < (S.size : Int) := by omega
            have i2 : IntKind.i64.wrap ((i : Int) - (f : Int)) = (i : Int) - (f : Int) := IntWalk.i64_in _ (by omega)
            by_cases h10 : S[i] = 10
            · have b1 := byte_lit (s := S) (i := i) (h := his) h10 10 rfl
              rw [h10] at hd
              have h76 := (LW_end hd).1
              have HW2 : Hid (LW (i + 1 - (i + 1)) (S.data.toList.drop (i + 1))) := Lib.hid (by rw [Nat.sub_self]; exact (LW_end hd).2)
              have i3 : ¬ (76 : Int) < (i : Int) - (f : Int) := by omega
              clear hd h10
              go_wp2
              go_round
              case rel => exact ⟨i + 1, i + 1, by go_num, by go_num, Nat.le_refl _, by omega, HW2⟩
              case measure => simp [intOf]; omega
            · have b1 := byte_not (s := S) (i := i) (h := his) h10 10 rfl
              have HW2 : Hid (LW (i + 1 - f) (S.data.toList.drop (i + 1))) := Lib.hid (by rw [show i + 1 - f = i - f + 1 by omega]; exact LW_go h10 hd)
              clear hd h10
              go_wp2
              go_round
              case rel => exact ⟨f, i + 1, by go_num, by go_num, by omega, by omega, HW2⟩
              case measure => simp [intOf]; omega
          · obtain rfl : i = S.size := by omega
            have CT := Lib.hid (plainParse_any S w4 (HT.out.call HB4.out) (by omega))
            have HPB := Lib.hid (parseP_bound S)
            by_cases hbig : 100000 < S.size
            · have k1 : (100000 : Int) < (S.size : Int) := by omega
              rw [HPP.out, if_pos (by rw [len_eq]; exact hbig)] at CT
              clear hbig
              go_wp2_with (go_at_call 10; (with_reducible refine CT.out.mono ?_); rintro e w5 ⟨ou1, n1, c1, ov1, m1, d1, rfl, -, hb⟩; have HB5 := Lib.hid (thenB HB4.out hb); clear hb)
              go_ret
              exact ⟨rfl, thenB HB5.out ((Below.refl _ _).alloc (Nat.le_refl _) _)⟩
            · have k1 : ¬ (100000 : Int) < (S.size : Int) := by omega
              have he := HPP.out
              rw [if_neg (by rw [len_eq]; exact hbig)] at he
              rw [he] at CT HPB
              clear hbig he
              have CT2 : Hid (Calls Tryd.prog 10 #[.string S] w4 fun e w' => (∃ ou n c ov m d, e = .returned (.tuple #[.agg #[.string nm, .slice ou n c, .slice ov m d], .int .i64 0, .int .i64 (-1)]) ∧ QPart (fun b => w4.heap.size ≤ b ∧ b < w'.heap.size) 8 w' (.slice ou n c) (.slice ov m d) p) ∧ Below w4.heap.size w4 w') := Lib.hid (CT.out.mono fun e w' h => by
                obtain ⟨ou, n, c, ov, m, d, h1, h2, h3⟩ := h
                refine ⟨⟨ou, n, c, ov, m, d, ?_, h2⟩, h3⟩
                rw [h1, HNM.out])
              clear CT
              go_upto_region 18 with (go_at_call 10; (with_reducible refine CT2.out.mono ?_); rintro e w5 ⟨⟨ou1, n1, c1, ov1, m1, d1, rfl, hq⟩, hb⟩; have HQ := Lib.hid hq; have HB5 := Lib.hid hb; clear hq hb)
              obtain ⟨W, hW⟩ : ∃ W, w5.alloc (.cells #[.string nm, .slice ou1 n1 c1, .slice ov1 m1 d1] 25) = W := ⟨_, rfl⟩
              have HB6 : Hid (Below w5.heap.size w5 W) := Lib.hid (by rw [← hW]; exact (Below.refl _ _).alloc (Nat.le_refl _) _)
              have HBW : Hid (Below w.heap.size w W) := Lib.hid (thenB (thenB HB4.out HB5.out) HB6.out)
              have CS := Lib.hid (samePartK_any 100000 (by decide) 8 p W _ w.heap.size _ _ _ _ HPB.out (HQ.out.call (fun b h => h.2) HB6.out) (HR.out.call HBW.out) (fun b h => Nat.lt_of_lt_of_le h.2 HB6.out.size) HBW.out.size)
              rw [HNM.out] at CS
              have z0 : W.cell? ⟨w5.heap.size, 0, none⟩ = some (.string nm) := by rw [← hW]; simp
              have z1 : W.cell? ⟨w5.heap.size, 1, none⟩ = some (.slice ou1 n1 c1) := by rw [← hW]; simp
              have z2 : W.cell? ⟨w5.heap.size, 2, none⟩ = some (.slice ov1 m1 d1) := by rw [← hW]; simp
              have t0 := ((HB5.out.trans (HB6.out.mono HB5.out.size)).cell (p := ⟨w.heap.size, 0, none⟩) f4).trans y0
              have t1 := ((HB5.out.trans (HB6.out.mono HB5.out.size)).cell (p := ⟨w.heap.size, 1, none⟩) f4).trans y1
              have t2 := ((HB5.out.trans (HB6.out.mono HB5.out.size)).cell (p := ⟨w.heap.size, 2, none⟩) f4).trans y2
              rw [hW]
              clear hW y0 y1 y2
              go_wp2_with (go_at_call 16; (with_reducible refine CS.out.mono ?_); rintro e w6 ⟨rfl, hb⟩; have HB7 := Lib.hid (thenB HBW.out hb); clear hb)
              go_ret
              exact ⟨rfl, HB7.out⟩
      · have hS := prL_no hE
        rw [hS] at CP
        obtain ⟨x, hx⟩ : ∃ x, prE p = x := ⟨_, rfl⟩
        rw [hx] at CP CC hE
        have e0 : (x == 0) = false := beq_eq_false_iff_ne.2 hE
        rw [show (⟨([] : List UInt8).toArray⟩ : ByteArray) = ⟨#[]⟩ from rfl] at CP
        clear hS hE hx
        go_wp2_with (first
          | (go_at_call 6; (with_reducible refine (CP.out _ HBC.out).mono ?_); rintro e w4 ⟨rfl, hb⟩; have HB4 := Lib.hid (thenB HBC.out hb); have y0 := (hb.cell (p := ⟨w.heap.size, 0, none⟩) f0).trans x0; have y1 := (hb.cell (p := ⟨w.heap.size, 1, none⟩) f0).trans x1; have y2 := (hb.cell (p := ⟨w.heap.size, 2, none⟩) f0).trans x2; clear hb x0 x1 x2)
          | (go_at_call 8; (with_reducible refine (CC.out _ HB4.out).mono ?_); rintro e w5 ⟨rfl, hb⟩; have HB5 := Lib.hid (thenB HB4.out hb); clear hb))
        go_ret
        exact ⟨rfl, HB5.out⟩
end Go.Proofs.YtidgahnamdhflaaDoor
