/- text.Unfold. -/
import Derived.Test.YtidgahnamdhflaaDoorFldD
namespace Go.Proofs.YtidgahnamdhflaaDoor
open Go.RowKit Go.Shelf Fld
theorem str_info : (Tryd.prog.info? 9).map (fun i => (i.zero, i.size, i.bytes)) = some (some (.string ⟨#[]⟩), 1, 16) := by kernel_rfl
theorem cells_at {w : World} {z : Nat} (hz : w.heap.size = z) (vs : List Value) (e : TypeId) : ∀ j u, vs[j]? = some u → (w.alloc (.cells vs.toArray e)).cell? ((⟨z, 0, none⟩ : Addr).add j) = some u := by
  subst hz; exact cells_here w vs e
/-- What a function that makes a list of texts answers. -/
def TxtR (l : List (List UInt8)) (w : World) (e : Ending) (w' : World) : Prop := ∃ v, e = .returned v ∧ StrL w' w.heap.size v l ∧ Below w.heap.size w w'
theorem StrL.drew {w : World} {b : Nat} {v : Value} {l : List (List UInt8)} (h : StrL w b v l) : StrL w.drew b v l := h
def lastB (b : UInt8) : Bool := b == 32 || b == 9
theorem stepU_app (acc : List (List UInt8)) (x : List UInt8) (h : goes (trimR x) = false ∨ acc = []) : stepU acc x = acc ++ [trimR x] := by
  unfold stepU
  rcases h with h | h
  · simp [h]
  · subst h; simp
theorem stepU_join (acc : List (List UInt8)) (x : List UInt8) (m : Nat) (hm : acc.length = m + 1) (h : goes (trimR x) = true) : stepU acc x = acc.set m (acc.getD m [] ++ (trimR x).drop 1) := by
  have hne : acc ≠ [] := by intro h0; rw [h0] at hm; simp at hm
  have hi : acc.isEmpty = false := by simpa using hne
  unfold stepU
  rw [h, hi]
  have e := List.dropLast_concat_getLast hne
  have e2 : acc.getLastD [] = acc.getD m [] := by
    rw [List.getLastD_eq_getLast?, List.getLast?_eq_getElem?, hm]; simp [List.getD]
  rw [e2]
  simp only [Bool.not_false, Bool.and_self, if_true]
  have e3 : acc.dropLast.length = m := by simp [hm]
  obtain ⟨D, hD⟩ : ∃ D, acc.dropLast = D := ⟨_, rfl⟩
  obtain ⟨Z, hZ⟩ : ∃ Z, acc.getLast hne = Z := ⟨_, rfl⟩
  rw [hD] at e3
  rw [hD, hZ] at e
  generalize acc.getD m [] = G
  rw [hD, ← e, List.set_append_right _ _ (by omega), e3]
  simp
theorem goes_hit (b : UInt8) (t : List UInt8) : goes (b :: t) = (b == 32 || b == 9) := rfl
theorem getD_flat (acc : List (List UInt8)) (m : Nat) : (acc.getD m []).length ≤ acc.flatten.length := by
  induction acc generalizing m with
  | nil => simp
  | cons a l ih =>
    cases m with
    | zero => simp
    | succ m => have := ih m; simp at this ⊢; omega
set_option maxRecDepth 100000 in
set_option maxHeartbeats 8000000 in
theorem unfold_any (s : ByteArray) (w : World) (hs : s.size ≤ 1048576) :
    Calls Tryd.prog 39 #[.string s] w (TxtR (unfL s.data.toList) w) := by
  obtain ⟨i0, hi0, hz0, hz1, hz2⟩ := info_parts str_info
  go_enter Tryd.func39, Tryd.ntmps39
  go_wp2
  go_loopw [0, 3] (fun t v wr => ∃ (r : ByteArray) (oa : Option Addr) (n cap : Nat) (acc : List (List UInt8)), t = .string r ∧ v = .slice oa n cap ∧ n + r.size ≤ s.size ∧ Hid (acc.length = n ∧ wr.ownsRow w.heap.size 9 1 (.slice oa n cap) n (strV acc) ∧ Below w.heap.size w wr ∧ (linesOf r.data.toList).foldl stepU acc = unfL s.data.toList ∧ acc.flatten.length + r.size ≤ s.size)) (fun t _ _ => match t with | .string r => r.size | _ => 0)
  case atStart => exact ⟨s, none, 0, 0, [], rfl, rfl, by omega, Lib.hid ⟨rfl, World.ownsRow_nil _ _ _ _, Below.refl _ _, rfl, by simp⟩⟩
  case round =>
    obtain ⟨r, oa, n, cap, acc, rfl, rfl, hn, HR⟩ := hrel
    obtain ⟨wA, rfl⟩ : ∃ wo : World, wo = wr := ⟨_, rfl⟩
    by_cases hr : r.data.toList = []
    · have hr2 : r = ⟨#[]⟩ := str_eq hr
      have e : acc = unfL s.data.toList := by have := HR.out.2.2.2.1; rw [hr, linesOf_nil] at this; exact this
      have HE := Lib.hid e
      subst hr2
      clear e hr
      go_wp2_with fail
      go_ret
      exact ⟨_, rfl, by rw [← HE.out]; unfold StrL; rw [HR.out.1]; exact HR.out.2.1, HR.out.2.2.1⟩
    · have hrb := not_empty hr
      obtain ⟨p, t, bo, HF, hcut⟩ := first_line r hr (by omega)
      have HCUT := Lib.hid hcut
      have HFL := Lib.hid HF
      have ht := HF.lt
      have hp := HF.le
      clear hcut hr
      obtain ⟨y, hy⟩ : ∃ y, trimR p.data.toList = y := ⟨_, rfl⟩
      have hyl : y.length ≤ p.size := by rw [← hy, ← len_eq]; exact trimR_len _
      have HTRIM : Hid (∀ w0, Calls Tryd.prog 61 #[.string p, .string ⟨#[13]⟩] w0 fun e w' => e = .returned (.string ⟨y.toArray⟩) ∧ w0 = w') := Lib.hid fun w0 => (trim_any p w0 (by omega)).mono fun e w' h => ⟨hy ▸ h.1, h.2.symm⟩
      have HNX : Hid ((linesOf t.data.toList).foldl stepU (stepU acc p.data.toList) = unfL s.data.toList) := Lib.hid (by have h := HR.out.2.2.2.1; rw [HF.lines] at h; exact h)
      have HFT : Hid ((stepU acc p.data.toList).flatten.length + t.size ≤ s.size) := Lib.hid (by have h1 := (stepU_flat acc p.data.toList).1; have h2 := HR.out.2.2.2.2; rw [len_eq] at h1; omega)
      have HY := Lib.hid hy
      clear hy HF
      obtain ⟨Y, hY⟩ : ∃ Y : ByteArray, (⟨y.toArray⟩ : ByteArray) = Y := ⟨_, rfl⟩
      have hYl : Y.data.toList = y := by rw [← hY]
      have hYs : Y.size = y.length := by rw [← len_eq, hYl]
      rw [hY] at HTRIM
      have hYs2 : Y.size ≤ p.size := by omega
      have HYL := Lib.hid hYl
      by_cases hy0 : y = []
      · have HST := Lib.hid (stepU_app acc p.data.toList (.inl (by rw [HY.out, hy0]; rfl)))
        have HYE := Lib.hid hY
        have hYb : Y.toList.isEmpty = true := by rw [ByteArray.toList_eq, hYl, hy0]; rfl
        clear hy0 hyl
        clear hYl hYs hY
        go_wp2_with (first
          | (go_at_call 60; refine (HCUT.out _).mono ?_; rintro e w1 ⟨rfl, hb1⟩; have HW1 := Lib.hid (HR.out.2.2.1.trans (hb1.mono HR.out.2.2.1.size)); have HO : Hid (w1.ownsRow w.heap.size 9 1 (.slice oa n cap) n (strV acc)) := Lib.hid (World.ownsRow.kept (row := none) HR.out.2.1 ⟨hb1.os, hb1.tape, hb1.output, hb1.size, fun k hk _ => hb1.block k hk⟩ (by cases oa <;> simp [Value.ownBlock])); clear hb1)
          | (go_at_call 61; refine (HTRIM.out _).mono ?_; rintro e w' ⟨rfl, rfl⟩)
          | (at_builtin; refine wpList_append_own _ rfl (.tmp 45) (.tmp 47) 39 rfl w.heap.size 9 i0 (.string ⟨#[]⟩) 1 16 Tryd.underlying39 hi0 hz0 hz1 hz2 rfl (by decide) _ n (strV acc) rfl (HO.out.alloc _) _ 1 1 [.string Y] rfl rfl (cells_at (by simp) _ _) (by simp [Value.oneCell']) (by unfold maxLen; omega) (by omega) (by have := HW1.out.size; simp; omega) ?_; intro v3 w3 hown hgrow _))
        obtain ⟨g3, c3, hv3, _, _⟩ := hown.form (by omega)
        subst hv3
        have HB3 := Lib.hid ((HW1.out.alloc HW1.out.size _).grown hgrow (by have := HW1.out.size; simp; omega) (fun k hk => (HO.out.lt k hk).1))
        have HO3 : Hid (w3.ownsRow w.heap.size 9 1 (.slice (some ⟨g3, 0, none⟩) (n + 1) c3) (n + 1) (strV (stepU acc p.data.toList))) := Lib.hid (by rw [HST.out, HY.out, strV_snoc, HYE.out]; exact hown)
        have HL3 : Hid ((stepU acc p.data.toList).length = n + 1) := Lib.hid (by rw [HST.out, List.length_append, HR.out.1]; rfl)
        clear hown hgrow
        go_wp2_with fail
        go_roundw
        case rel => exact ⟨t, some ⟨g3, 0, none⟩, n + 1, c3, stepU acc p.data.toList, rfl, rfl, by omega, Lib.hid ⟨HL3.out, HO3.out, HB3.out, HNX.out, HFT.out⟩⟩
        case measure => exact ht
      · obtain ⟨b, y', rfl⟩ := List.exists_cons_of_ne_nil hy0
        have hYb := not_empty (r := Y) (by rw [hYl]; exact hy0)
        have hY0 : 0 < Y.size := by rw [hYs]; simp
        have g0 : Y[0] = b := by have h := getD_byte Y 0 hY0; rw [hYl] at h; exact h.symm
        have HYE := Lib.hid hY
        have HGE := Lib.hid (goes_hit b y')
        clear hy0 hyl
        by_cases h32 : b = 32
        · have b1 : ((b.toNat : Int) == 32) = true := by rw [h32]; rfl
          have HG : Hid (goes (b :: y') = true) := Lib.hid (by rw [HGE.out, h32]; rfl)
          clear h32
          by_cases hn0 : n = 0
          · subst hn0
            have HST := Lib.hid (stepU_app acc p.data.toList (.inr (List.eq_nil_of_length_eq_zero HR.out.1)))
            clear hYl hYs hY
            go_wp2_with (first
              | (go_at_call 60; refine (HCUT.out _).mono ?_; rintro e w1 ⟨rfl, hb1⟩; have HW1 := Lib.hid (HR.out.2.2.1.trans (hb1.mono HR.out.2.2.1.size)); have HO : Hid (w1.ownsRow w.heap.size 9 1 (.slice oa 0 cap) 0 (strV acc)) := Lib.hid (World.ownsRow.kept (row := none) HR.out.2.1 ⟨hb1.os, hb1.tape, hb1.output, hb1.size, fun k hk _ => hb1.block k hk⟩ (by cases oa <;> simp [Value.ownBlock])); clear hb1)
              | (go_at_call 61; refine (HTRIM.out _).mono ?_; rintro e w' ⟨rfl, rfl⟩)
              | (at_builtin; refine wpList_append_own _ rfl (.tmp 45) (.tmp 47) 39 rfl w.heap.size 9 i0 (.string ⟨#[]⟩) 1 16 Tryd.underlying39 hi0 hz0 hz1 hz2 rfl (by decide) _ 0 (strV acc) rfl (HO.out.alloc _) _ 1 1 [.string Y] rfl rfl (cells_at (by simp) _ _) (by simp [Value.oneCell']) (by unfold maxLen; omega) (by omega) (by have := HW1.out.size; simp; omega) ?_; intro v3 w3 hown hgrow _))
            obtain ⟨g3, c3, hv3, _, _⟩ := hown.form (by omega)
            subst hv3
            have HB3 := Lib.hid ((HW1.out.alloc HW1.out.size _).grown hgrow (by have := HW1.out.size; simp; omega) (fun k hk => (HO.out.lt k hk).1))
            have HO3 : Hid (w3.ownsRow w.heap.size 9 1 (.slice (some ⟨g3, 0, none⟩) (0 + 1) c3) (0 + 1) (strV (stepU acc p.data.toList))) := Lib.hid (by rw [HST.out, HY.out, strV_snoc, HYE.out]; exact hown)
            have HL3 : Hid ((stepU acc p.data.toList).length = 0 + 1) := Lib.hid (by rw [HST.out, List.length_append, HR.out.1]; rfl)
            clear hown hgrow
            go_wp2_with fail
            go_roundw
            case rel => exact ⟨t, some ⟨g3, 0, none⟩, 0 + 1, c3, stepU acc p.data.toList, rfl, rfl, by omega, Lib.hid ⟨HL3.out, HO3.out, HB3.out, HNX.out, HFT.out⟩⟩
            case measure => exact ht
          · have hn1 : 0 < n := by omega
            obtain ⟨m, rfl⟩ : ∃ m, n = m + 1 := ⟨n - 1, by omega⟩
            obtain ⟨LS, hLS⟩ : ∃ LS : ByteArray, (⟨(acc.getD m []).toArray⟩ : ByteArray) = LS := ⟨_, rfl⟩
            have hLl : LS.data.toList = acc.getD m [] := by rw [← hLS]
            have hLz : LS.size ≤ s.size := by have h1 := getD_flat acc m; have h2 := HR.out.2.2.2.2; rw [← hLl, len_eq] at h1; omega
            obtain ⟨g, hoa, hgb, _, _, _⟩ := StrL.at (b := w.heap.size) (w := wA) (oa := oa) (n := m + 1) (cap := cap) (l := acc) (k := m) (by unfold StrL; rw [HR.out.1]; exact HR.out.2.1) (by rw [HR.out.1]; omega)
            subst hoa
            have HST : Hid (stepU acc p.data.toList = acc.set m (LS ++ Y.extract 1 Y.size).data.toList) := Lib.hid (by rw [stepU_join acc _ m HR.out.1 (by rw [HY.out]; exact HG.out), HY.out, ByteArray.data_append, Array.toList_append, hLl, ext_from, HYL.out])
            have HLS := Lib.hid hLS
            have k0 : IntKind.i64.wrap (m : Int) = (m : Int) := IntWalk.i64_in _ (by omega)
            have k1 : (0 : Int) ≤ (m : Int) := by omega
            have k2 : (m : Int) < (m : Int) + 1 := by omega
            have k3 : (1 : Int) ≤ (Y.size : Int) := by omega
            have hEx : (Y.extract 1 Y.size).size ≤ p.size := by rw [ByteArray.size_extract]; omega
            clear hYl hYs hY hLl hLS
            go_wp2_with (first
              | (go_at_call 60; refine (HCUT.out _).mono ?_; rintro e w1 ⟨rfl, hb1⟩; have HW1 := Lib.hid (HR.out.2.2.1.trans (hb1.mono HR.out.2.2.1.size)); have HO : Hid (w1.ownsRow w.heap.size 9 1 (.slice (some ⟨g, 0, none⟩) (m + 1) cap) (m + 1) (strV acc)) := Lib.hid (World.ownsRow.kept (row := none) HR.out.2.1 ⟨hb1.os, hb1.tape, hb1.output, hb1.size, fun k hk _ => hb1.block k hk⟩ (.inr (by show some g ≠ none; simp))); clear hb1)
              | (go_at_call 61; refine (HTRIM.out _).mono ?_; rintro e w' ⟨rfl, rfl⟩))
            obtain ⟨_, e0, _, hgz, hc, hf⟩ := StrL.at (b := w.heap.size) (w := w1) (oa := some ⟨g, 0, none⟩) (n := m + 1) (cap := cap) (l := acc) (k := m) (by unfold StrL; rw [HR.out.1]; exact HO.out) (by rw [HR.out.1]; omega)
            cases e0
            rw [HLS.out] at hc
            go_region
            have HO3 : Hid (StrL (w1.setCell ⟨g, m, none⟩ (.string (LS ++ Y.extract 1 Y.size))).drew w.heap.size (.slice (some ⟨g, 0, none⟩) (m + 1) cap) (stepU acc p.data.toList)) := Lib.hid (by rw [HST.out]; exact StrL.set (w := w1) (by unfold StrL; rw [HR.out.1]; exact HO.out) m _)
            have HB3 := Lib.hid (below_drew (HW1.out.setCell (p := ⟨g, m, none⟩) hgb (.string (LS ++ Y.extract 1 Y.size))))
            have HL3 : Hid ((stepU acc p.data.toList).length = m + 1) := Lib.hid (by rw [HST.out, List.length_set, HR.out.1])
            clear hc hf
            go_wp2_with fail
            go_roundw
            case rel => exact ⟨t, some ⟨g, 0, none⟩, m + 1, cap, stepU acc p.data.toList, rfl, rfl, by omega, Lib.hid ⟨HL3.out, by have h := HO3.out; unfold StrL at h; rw [HL3.out] at h; exact h, HB3.out, HNX.out, HFT.out⟩⟩
            case measure => exact ht
        · have hb32 : ((b.toNat : Int) == 32) = false := by simpa using fun h : (b.toNat : Int) = 32 => h32 (UInt8.toNat_inj.1 (by show b.toNat = 32; omega))
          by_cases h9 : b = 9
          · have b1 : ((b.toNat : Int) == 9) = true := by rw [h9]; rfl
            have b0 : ((b.toNat : Int) == 32) = false := by rw [h9]; rfl
            have HG : Hid (goes (b :: y') = true) := Lib.hid (by rw [HGE.out, h9]; rfl)
            clear h9
            by_cases hn0 : n = 0
            · subst hn0
              have HST := Lib.hid (stepU_app acc p.data.toList (.inr (List.eq_nil_of_length_eq_zero HR.out.1)))
              clear hYl hYs hY
              go_wp2_with (first
                | (go_at_call 60; refine (HCUT.out _).mono ?_; rintro e w1 ⟨rfl, hb1⟩; have HW1 := Lib.hid (HR.out.2.2.1.trans (hb1.mono HR.out.2.2.1.size)); have HO : Hid (w1.ownsRow w.heap.size 9 1 (.slice oa 0 cap) 0 (strV acc)) := Lib.hid (World.ownsRow.kept (row := none) HR.out.2.1 ⟨hb1.os, hb1.tape, hb1.output, hb1.size, fun k hk _ => hb1.block k hk⟩ (by cases oa <;> simp [Value.ownBlock])); clear hb1)
                | (go_at_call 61; refine (HTRIM.out _).mono ?_; rintro e w' ⟨rfl, rfl⟩)
                | (at_builtin; refine wpList_append_own _ rfl (.tmp 45) (.tmp 47) 39 rfl w.heap.size 9 i0 (.string ⟨#[]⟩) 1 16 Tryd.underlying39 hi0 hz0 hz1 hz2 rfl (by decide) _ 0 (strV acc) rfl (HO.out.alloc _) _ 1 1 [.string Y] rfl rfl (cells_at (by simp) _ _) (by simp [Value.oneCell']) (by unfold maxLen; omega) (by omega) (by have := HW1.out.size; simp; omega) ?_; intro v3 w3 hown hgrow _))
              obtain ⟨g3, c3, hv3, _, _⟩ := hown.form (by omega)
              subst hv3
              have HB3 := Lib.hid ((HW1.out.alloc HW1.out.size _).grown hgrow (by have := HW1.out.size; simp; omega) (fun k hk => (HO.out.lt k hk).1))
              have HO3 : Hid (w3.ownsRow w.heap.size 9 1 (.slice (some ⟨g3, 0, none⟩) (0 + 1) c3) (0 + 1) (strV (stepU acc p.data.toList))) := Lib.hid (by rw [HST.out, HY.out, strV_snoc, HYE.out]; exact hown)
              have HL3 : Hid ((stepU acc p.data.toList).length = 0 + 1) := Lib.hid (by rw [HST.out, List.length_append, HR.out.1]; rfl)
              clear hown hgrow
              go_wp2_with fail
              go_roundw
              case rel => exact ⟨t, some ⟨g3, 0, none⟩, 0 + 1, c3, stepU acc p.data.toList, rfl, rfl, by omega, Lib.hid ⟨HL3.out, HO3.out, HB3.out, HNX.out, HFT.out⟩⟩
              case measure => exact ht
            · have hn1 : 0 < n := by omega
              obtain ⟨m, rfl⟩ : ∃ m, n = m + 1 := ⟨n - 1, by omega⟩
              obtain ⟨LS, hLS⟩ : ∃ LS : ByteArray, (⟨(acc.getD m []).toArray⟩ : ByteArray) = LS := ⟨_, rfl⟩
              have hLl : LS.data.toList = acc.getD m [] := by rw [← hLS]
              have hLz : LS.size ≤ s.size := by have h1 := getD_flat acc m; have h2 := HR.out.2.2.2.2; rw [← hLl, len_eq] at h1; omega
              obtain ⟨g, hoa, hgb, _, _, _⟩ := StrL.at (b := w.heap.size) (w := wA) (oa := oa) (n := m + 1) (cap := cap) (l := acc) (k := m) (by unfold StrL; rw [HR.out.1]; exact HR.out.2.1) (by rw [HR.out.1]; omega)
              subst hoa
              have HST : Hid (stepU acc p.data.toList = acc.set m (LS ++ Y.extract 1 Y.size).data.toList) := Lib.hid (by rw [stepU_join acc _ m HR.out.1 (by rw [HY.out]; exact HG.out), HY.out, ByteArray.data_append, Array.toList_append, hLl, ext_from, HYL.out])
              have HLS := Lib.hid hLS
              have k0 : IntKind.i64.wrap (m : Int) = (m : Int) := IntWalk.i64_in _ (by omega)
              have k1 : (0 : Int) ≤ (m : Int) := by omega
              have k2 : (m : Int) < (m : Int) + 1 := by omega
              have k3 : (1 : Int) ≤ (Y.size : Int) := by omega
              have hEx : (Y.extract 1 Y.size).size ≤ p.size := by rw [ByteArray.size_extract]; omega
              clear hYl hYs hY hLl hLS
              go_wp2_with (first
                | (go_at_call 60; refine (HCUT.out _).mono ?_; rintro e w1 ⟨rfl, hb1⟩; have HW1 := Lib.hid (HR.out.2.2.1.trans (hb1.mono HR.out.2.2.1.size)); have HO : Hid (w1.ownsRow w.heap.size 9 1 (.slice (some ⟨g, 0, none⟩) (m + 1) cap) (m + 1) (strV acc)) := Lib.hid (World.ownsRow.kept (row := none) HR.out.2.1 ⟨hb1.os, hb1.tape, hb1.output, hb1.size, fun k hk _ => hb1.block k hk⟩ (.inr (by show some g ≠ none; simp))); clear hb1)
                | (go_at_call 61; refine (HTRIM.out _).mono ?_; rintro e w' ⟨rfl, rfl⟩))
              obtain ⟨_, e0, _, hgz, hc, hf⟩ := StrL.at (b := w.heap.size) (w := w1) (oa := some ⟨g, 0, none⟩) (n := m + 1) (cap := cap) (l := acc) (k := m) (by unfold StrL; rw [HR.out.1]; exact HO.out) (by rw [HR.out.1]; omega)
              cases e0
              rw [HLS.out] at hc
              go_region
              have HO3 : Hid (StrL (w1.setCell ⟨g, m, none⟩ (.string (LS ++ Y.extract 1 Y.size))).drew w.heap.size (.slice (some ⟨g, 0, none⟩) (m + 1) cap) (stepU acc p.data.toList)) := Lib.hid (by rw [HST.out]; exact StrL.set (w := w1) (by unfold StrL; rw [HR.out.1]; exact HO.out) m _)
              have HB3 := Lib.hid (below_drew (HW1.out.setCell (p := ⟨g, m, none⟩) hgb (.string (LS ++ Y.extract 1 Y.size))))
              have HL3 : Hid ((stepU acc p.data.toList).length = m + 1) := Lib.hid (by rw [HST.out, List.length_set, HR.out.1])
              clear hc hf
              go_wp2_with fail
              go_roundw
              case rel => exact ⟨t, some ⟨g, 0, none⟩, m + 1, cap, stepU acc p.data.toList, rfl, rfl, by omega, Lib.hid ⟨HL3.out, by have h := HO3.out; unfold StrL at h; rw [HL3.out] at h; exact h, HB3.out, HNX.out, HFT.out⟩⟩
              case measure => exact ht
          · have hb9 : ((b.toNat : Int) == 9) = false := by simpa using fun h : (b.toNat : Int) = 9 => h9 (UInt8.toNat_inj.1 (by show b.toNat = 9; omega))
            have HST := Lib.hid (stepU_app acc p.data.toList (.inl (by rw [HY.out, HGE.out]; simp [h32, h9])))
            clear h32 h9
            clear hYl hYs hY
            go_wp2_with (first
              | (go_at_call 60; refine (HCUT.out _).mono ?_; rintro e w1 ⟨rfl, hb1⟩; have HW1 := Lib.hid (HR.out.2.2.1.trans (hb1.mono HR.out.2.2.1.size)); have HO : Hid (w1.ownsRow w.heap.size 9 1 (.slice oa n cap) n (strV acc)) := Lib.hid (World.ownsRow.kept (row := none) HR.out.2.1 ⟨hb1.os, hb1.tape, hb1.output, hb1.size, fun k hk _ => hb1.block k hk⟩ (by cases oa <;> simp [Value.ownBlock])); clear hb1)
              | (go_at_call 61; refine (HTRIM.out _).mono ?_; rintro e w' ⟨rfl, rfl⟩)
              | (at_builtin; refine wpList_append_own _ rfl (.tmp 45) (.tmp 47) 39 rfl w.heap.size 9 i0 (.string ⟨#[]⟩) 1 16 Tryd.underlying39 hi0 hz0 hz1 hz2 rfl (by decide) _ n (strV acc) rfl (HO.out.alloc _) _ 1 1 [.string Y] rfl rfl (cells_at (by simp) _ _) (by simp [Value.oneCell']) (by unfold maxLen; omega) (by omega) (by have := HW1.out.size; simp; omega) ?_; intro v3 w3 hown hgrow _))
            obtain ⟨g3, c3, hv3, _, _⟩ := hown.form (by omega)
            subst hv3
            have HB3 := Lib.hid ((HW1.out.alloc HW1.out.size _).grown hgrow (by have := HW1.out.size; simp; omega) (fun k hk => (HO.out.lt k hk).1))
            have HO3 : Hid (w3.ownsRow w.heap.size 9 1 (.slice (some ⟨g3, 0, none⟩) (n + 1) c3) (n + 1) (strV (stepU acc p.data.toList))) := Lib.hid (by rw [HST.out, HY.out, strV_snoc, HYE.out]; exact hown)
            have HL3 : Hid ((stepU acc p.data.toList).length = n + 1) := Lib.hid (by rw [HST.out, List.length_append, HR.out.1]; rfl)
            clear hown hgrow
            go_wp2_with fail
            go_roundw
            case rel => exact ⟨t, some ⟨g3, 0, none⟩, n + 1, c3, stepU acc p.data.toList, rfl, rfl, by omega, Lib.hid ⟨HL3.out, HO3.out, HB3.out, HNX.out, HFT.out⟩⟩
            case measure => exact ht
end Go.Proofs.YtidgahnamdhflaaDoor
