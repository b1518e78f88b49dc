/- NEWV Not and And. -/
import Derived.Test.YtikhjlankomghaaMomG
namespace Go.Proofs.Ytikhjlankomghaa
open Go.RowKit
def fromAt (f : Int) (l : List Iv) (k : Nat) : Int := if k = 0 then f else (l.getD (k - 1) iv0).2
def gapsP (f : Int) (l : List Iv) : Nat → List Iv
  | 0 => []
  | k + 1 => gapsP f l k ++ [(fromAt f l k, (l.getD k iv0).1)]
theorem gapsP_len (f : Int) (l : List Iv) : ∀ k, (gapsP f l k).length = k := by
  intro k
  induction k with
  | zero => rfl
  | succ k ih => unfold gapsP; rw [List.length_append, ih]; rfl
theorem gapsP_cons (f : Int) (p : Iv) (l : List Iv) : ∀ k, gapsP f (p :: l) (k + 1) = (f, p.1) :: gapsP p.2 l k := by
  intro k
  induction k with
  | zero => rfl
  | succ k ih =>
    have e1 : gapsP f (p :: l) (k + 1 + 1) = gapsP f (p :: l) (k + 1) ++ [(fromAt f (p :: l) (k + 1), ((p :: l).getD (k + 1) iv0).1)] := rfl
    have e2 : gapsP p.2 l (k + 1) = gapsP p.2 l k ++ [(fromAt p.2 l k, (l.getD k iv0).1)] := rfl
    rw [e1, e2, ih]
    have e3 : fromAt f (p :: l) (k + 1) = fromAt p.2 l k := by
      unfold fromAt
      rw [if_neg (by omega)]
      cases k with
      | zero => rfl
      | succ k => rw [if_neg (by omega)]; rfl
    rw [e3]
    rfl
theorem gapsP_all (f : Int) : ∀ (l : List Iv), gapsM f l = gapsP f l l.length ++ [(fromAt f l l.length, hiM)] := by
  intro l
  induction l generalizing f with
  | nil => rfl
  | cons p l ih =>
    unfold gapsM
    rw [ih, List.length_cons, gapsP_cons]
    have e3 : fromAt f (p :: l) (l.length + 1) = fromAt p.2 l l.length := by
      unfold fromAt
      rw [if_neg (by omega)]
      cases h : l.length with
      | zero => rfl
      | succ k => rw [if_neg (by omega)]; rfl
    rw [e3]
    rfl
theorem grown_box {w w' : World} {row : Option Nat} {o1 o2 : Obj} {i : Nat} (hrow : ∀ k, row = some k → k < w.heap.size) (hg : ((w.alloc o1).alloc o2).grownBy w' row) : w'.cell? ⟨w.heap.size, i, none⟩ = (w.alloc o1).cell? ⟨w.heap.size, i, none⟩ ∧ w.heap.size < w'.heap.size := by
  have h1 := hg.block w.heap.size (by simp; omega) (fun e => by have := hrow _ e.symm; omega)
  refine ⟨?_, Nat.lt_of_lt_of_le (by simp; omega) hg.size⟩
  rw [World.cell?_of_block (w := (w.alloc o1).alloc o2) h1]
  exact World.cell?_alloc_lt (w.alloc o1) o2 ⟨w.heap.size, i, none⟩ (by simp)
set_option maxRecDepth 100000 in
set_option maxHeartbeats 8000000 in
theorem not_any (v0 : Value) (l : List Iv) (w : World) (h0 : IvS w v0 l) (hl : l.length ≤ 1000000) (hn0 : Norm l) :
    Calls Try.prog 18 #[.agg #[v0]] w (SetR (NotM l) w) := by
  have HN0 := Lib.hid hn0
  obtain ⟨ob, cap, rfl, -, hR⟩ := h0
  obtain ⟨n, hm⟩ : ∃ n, l.length = n := ⟨_, rfl⟩
  have HM := Lib.hid hm
  have HR := Lib.hid hR
  rw [hm] at hl ⊢
  clear hn0 hR hm
  obtain ⟨i0, hi0, hz0, hz1, hz2⟩ := info_parts span_info2
  go_enter Try.func18, Try.ntmps18
  go_wp2_with fail
  have HB0 := Lib.hid ((Below.alloc (Below.refl w.heap.size w) (Nat.le_refl _) (.cells #[.slice ob n cap] 25)).alloc (by simp) (.cells #[.slice none 0 0] 25))
  obtain ⟨w0, hw0⟩ : ∃ x, (w.alloc (.cells #[.slice ob n cap] 25)).alloc (.cells #[.slice none 0 0] 25) = x := ⟨_, rfl⟩
  have HC0 := Lib.hid (show w0.cell? ⟨w.heap.size + 1, 0, none⟩ = some (.slice none 0 0) ∧ w0.frozen? ⟨w.heap.size + 1, 0, none⟩ = false ∧ w0.heap.size = w.heap.size + 2 by rw [← hw0]; simp [go_sem])
  rw [hw0] at HB0 ⊢
  clear hw0
  go_loopw [3, 4, 10] (fun v fr c wr => ∃ (og : Option Addr) (cg k : Nat) (F : Int), v = .slice og k cg ∧ fr = .int .i64 F ∧ c = .int .i64 (k : Int) ∧ k ≤ n ∧ Hid (F = fromAt loM l k) ∧ Hid (wr.ownsRow w0.heap.size 32 2 (.slice og k cg) k (ivV (gapsP loM l k))) ∧ Hid (Below w0.heap.size w0 wr)) (fun _ _ c _ => n - (intOf c).toNat)
  case atStart => exact ⟨none, 0, 0, _, rfl, rfl, rfl, by omega, Lib.hid rfl, Lib.hid (World.ownsRow_nil _ _ _ _), Lib.hid (Below.refl _ _)⟩
  case round =>
    obtain ⟨og, cg, k, F, rfl, rfl, rfl, hk, HF, HO, HW⟩ := hrel
    obtain ⟨wA, rfl⟩ : ∃ wo : World, wo = wr := ⟨_, rfl⟩
    by_cases hkn : k < n
    · have hkl : k < l.length := by rw [HM.out]; exact hkn
      have HRA := Lib.hid (HR.out.call (thenB HB0.out HW.out))
      obtain ⟨a, rfl⟩ := HRA.out.1 (by omega)
      obtain ⟨c0, c1⟩ := HRA.out.at hkl
      have hst : gapsP loM l (k + 1) = gapsP loM l k ++ [(fromAt loM l k, (l.getD k iv0).1)] := rfl
      have hf : fromAt loM l (k + 1) = (l.getD k iv0).2 := by unfold fromAt; rw [if_neg (by omega)]; rfl
      obtain ⟨X, hX⟩ : ∃ x, (l.getD k iv0).1 = x := ⟨_, rfl⟩
      obtain ⟨Y, hY⟩ : ∃ x, (l.getD k iv0).2 = x := ⟨_, rfl⟩
      rw [hX] at c0 hst
      rw [hY] at c1 hf
      rw [← HF.out] at hst
      have HST := Lib.hid hst
      have HFS := Lib.hid hf
      have hab := World.block_lt_of_cell? _ _ c0
      have k1 : (0 : Int) ≤ (k : Int) := by omega
      have k2 : (k : Int) < (n : Int) := by omega
      have HW1 := Lib.hid (HW.out.alloc HW.out.size (.cells #[.int .i64 X, .int .i64 Y] 32))
      have HO1 := Lib.hid (ivOwn_call HO.out (Below.alloc (Below.refl _ _) (Nat.le_refl _) (.cells #[.int .i64 X, .int .i64 Y] 32)))
      have hbx : (wA.alloc (.cells #[.int .i64 X, .int .i64 Y] 32)).cell? ⟨wA.heap.size, 1, none⟩ = some (.int .i64 Y) := by simp
      have HBX := Lib.hid hbx
      clear hkl hX hY hst hf hbx
      go_wp2_with (at_builtin; refine wpList_append_own _ rfl (.tmp 14) (.tmp 19) 22 rfl w0.heap.size 32 i0 (.agg #[.int .i64 0, .int .i64 0]) 2 16 Try.underlying22 hi0 hz0 hz1 hz2 rfl (by decide) _ k (ivV (gapsP loM l k)) rfl (HO1.out.alloc _) _ 1 1 [.int .i64 F, .int .i64 X] rfl rfl (cells_ivs (by simp) _ _) (by simp [Value.oneCell']) (by unfold maxLen; omega) (by omega) (by have := HW1.out.size; simp at *; omega) ?_; intro v3 w3 hown hgrow _; have hgb := grown_box (i := 1) (fun k hk => (HO.out.lt k hk).2) hgrow; obtain ⟨y1, y2⟩ := hgb; rw [HBX.out] at y1)
      obtain ⟨g3, c3, hv3, _, _⟩ := hown.form (by omega)
      subst hv3
      have hlt8 := HO1.out.lt
      have HW3 := Lib.hid ((HW1.out.alloc HW1.out.size (.cells #[.int .i64 F, .int .i64 X] 32)).grown hgrow (by have := HW1.out.size; simp at *; omega) (fun k hk => (hlt8 k hk).1))
      have HO3 := Lib.hid (show w3.ownsRow w0.heap.size 32 2 (.slice (some ⟨g3, 0, none⟩) (k + 1) c3) (k + 1) (ivV (gapsP loM l (k + 1))) from by rw [HST.out, ivV_append]; exact hown)
      clear hown hgrow hlt8
      go_wp2_with fail
      go_roundw
      case rel => exact ⟨_, c3, k + 1, Y, rfl, rfl, by go_num, by omega, Lib.hid HFS.out.symm, HO3, HW3⟩
      case measure => simp [intOf]; omega
    · obtain rfl : n = k := by omega
      have hall := gapsP_all loM l
      rw [HM.out, ← HF.out] at hall
      have HALL := Lib.hid hall
      clear hall
      go_wp2_with (at_builtin; refine wpList_append_own _ rfl (.tmp 24) (.tmp 27) 22 rfl w0.heap.size 32 i0 (.agg #[.int .i64 0, .int .i64 0]) 2 16 Try.underlying22 hi0 hz0 hz1 hz2 rfl (by decide) _ n (ivV (gapsP loM l n)) rfl (HO.out.alloc _) _ 1 1 [.int .i64 F, .int .i64 hiM] rfl rfl (cells_ivs (by simp) _ _) (by simp [Value.oneCell']) (by unfold maxLen; omega) (by omega) (by have := HW.out.size; simp at *; omega) ?_; intro v3 w3 hown hgrow _)
      obtain ⟨g3, c3, hv3, _, _⟩ := hown.form (by omega)
      subst hv3
      have hlt8 := HO.out.lt
      have HW3 := Lib.hid ((HW.out.alloc HW.out.size (.cells #[.int .i64 F, .int .i64 hiM] 32)).grown hgrow (by have := HW.out.size; simp at *; omega) (fun k hk => (hlt8 k hk).1))
      have HO3 := Lib.hid (show w3.ownsRow w0.heap.size 32 2 (.slice (some ⟨g3, 0, none⟩) (n + 1) c3) (n + 1) (ivV (gapsM loM l)) from by rw [HALL.out, ivV_append]; exact hown)
      have hlen : (gapsM loM l).length = n + 1 := by rw [gapsM_len, HM.out]
      have HLEN := Lib.hid hlen
      have hiv : IvS w3 (.slice (some ⟨g3, 0, none⟩) (n + 1) c3) (gapsM loM l) := IvS.own (b := w0.heap.size) (by rw [hlen]; exact HO3.out)
      obtain ⟨_, _, he, -, hRV⟩ := hiv
      rw [hlen] at he
      simp only [Value.slice.injEq, true_and] at he
      obtain ⟨rfl, rfl⟩ := he
      have hcon := of_any (some ⟨g3, 0, none⟩) (gapsM loM l) (n + 1) c3 w3 hlen (by omega) hRV
      clear hown hgrow hlt8 hlen hRV
      refine hcon.mono ?_
      clear hcon
      rintro e w4 ⟨v4, o, rfl, hof, hv4, hnew, hb4⟩
      have HOR := Lib.hid (hof.not HN0.out)
      have HV4 := Lib.hid hv4
      have HNW := Lib.hid hnew
      have HB4 := Lib.hid (HW3.out.trans (hb4.mono HW3.out.size))
      have hc1 := (HB4.out.cell (p := ⟨w.heap.size + 1, 0, none⟩) (by rw [HC0.out.2.2]; show w.heap.size + 1 < _; omega)).trans HC0.out.1
      have hc2 := (HB4.out.frozen (p := ⟨w.heap.size + 1, 0, none⟩) (by rw [HC0.out.2.2]; show w.heap.size + 1 < _; omega)).trans HC0.out.2.1
      have hc3 : w.heap.size + 1 < w4.heap.size := by have := HB4.out.size; rw [HC0.out.2.2] at this; omega
      obtain ⟨ob4, cap4, rfl, -, -⟩ := id hv4
      obtain ⟨n4, hn4⟩ : ∃ n, o.length = n := ⟨_, rfl⟩
      rw [hn4] at HV4 HNW
      rw [hn4]
      clear hof hv4 hnew hb4 hn4
      go_wp2_with fail
      have z0 : (w4.setCell ⟨w.heap.size + 1, 0, none⟩ (.slice ob4 n4 cap4)).cell? ⟨w.heap.size + 1, 0, none⟩ = some (.slice ob4 n4 cap4) := World.cell?_setCell_same _ _ _ hc1
      refine bodyPost_ret (v := .agg #[.slice ob4 n4 cap4]) (by simp [results, Try.results18, go_sem, z0]) rfl ⟨.slice ob4 n4 cap4, o, rfl, HOR.out, ?_, ?_, ?_⟩
      · refine HV4.out.far (fun a c nn h e => ?_) _ _
        have h1 := HNW.out a nn c h
        have h2 := HW3.out.size
        rw [HC0.out.2.2] at h2
        omega
      · intro a nn c h
        have h1 := HNW.out a nn c h
        have h2 := HW3.out.size
        rw [HC0.out.2.2] at h2
        omega
      · exact (HB0.out.trans (HB4.out.mono (by rw [HC0.out.2.2]; omega))).setCell (p := ⟨w.heap.size + 1, 0, none⟩) (by show w.heap.size ≤ w.heap.size + 1; omega) _
end Go.Proofs.Ytikhjlankomghaa
