/- The document's Items. -/
import Derived.Test.YthlpknmfpbhlhaaDoorLstD
namespace Go.Proofs.YthlpknmfpbhlhaaDoor
open Go.RowKit Go.Shelf Fld
/-- What the document's Items answers. -/
def RIt (R : IRes) (w : World) (e : Ending) (w' : World) : Prop :=
  Below w.heap.size w w' ∧ match R with
    | .ok L => ∃ v, e = .returned (.tuple #[v, .agg #[.int .i64 0, .int .i64 (-1)]]) ∧ StrL w' w.heap.size v L
    | .bad k => e = .returned (.tuple #[.slice none 0 0, .agg #[.int .i64 5, .int .i64 (k : Int)]])
theorem fine_any (w : World) : Calls Tryd.prog 14 #[] w fun e w' => e = .returned (.agg #[.int .i64 0, .int .i64 (-1)]) ∧ Below w.heap.size w w' := by
  go_enter Tryd.func14, Tryd.ntmps14
  go_wp2
  refine bodyPost_ret (v := .agg #[.int .i64 0, .int .i64 (-1)]) (by simp [results, Tryd.results14, go_sem]) rfl ⟨rfl, ?_⟩
  exact (by repeat (first | exact Below.refl _ _ | (refine Below.setCell ?_ (by simp) _) | (refine Below.alloc ?_ (by simp <;> omega) _)))
/-- Under way. -/
def RSt (w0 : World) (R : IRes) (s : List UInt8) (v : Value) (n i : Nat) (acc : List (List UInt8)) (cur : List UInt8) (wr : World) : Prop :=
  acc.length = n ∧ StrL wr w0.heap.size v (acc ++ [cur]) ∧ Below w0.heap.size w0 wr ∧ itemsF (s.drop i) i acc cur = R
theorem RSt.row {w0 : World} {R : IRes} {s : List UInt8} {v : Value} {n i : Nat} {acc : List (List UInt8)} {cur : List UInt8} {wr : World} (h : RSt w0 R s v n i acc cur wr) : wr.ownsRow w0.heap.size 9 1 v (n + 1) (strV (acc ++ [cur])) := by
  have h1 := h.2.1
  unfold StrL at h1
  rw [List.length_append, h.1] at h1
  exact h1
theorem set_last (acc : List (List UInt8)) (cur x : List UInt8) (n : Nat) (h : acc.length = n) : (acc ++ [cur]).set n x = acc ++ [x] := by
  rw [List.set_append_right _ _ (by omega), show n - acc.length = 0 by omega]
  rfl
theorem get_last (acc : List (List UInt8)) (cur : List UInt8) (n : Nat) (h : acc.length = n) : (acc ++ [cur]).getD n [] = cur := by
  rw [List.getD, List.getElem?_append_right (by omega), show n - acc.length = 0 by omega]
  rfl
set_option maxRecDepth 100000 in
set_option maxHeartbeats 8000000 in
theorem ritems_any (s : ByteArray) (w : World) (hs : s.size ≤ 1048576) :
    Calls Tryd.prog 5 #[.string s] w (RIt (itemsF s.data.toList 0 [] []) w) := by
  obtain ⟨i0, hi0, hz0, hz1, hz2⟩ := info_parts str_info
  obtain ⟨R, hR⟩ : ∃ R, itemsF s.data.toList 0 [] [] = R := ⟨_, rfl⟩
  rw [hR]
  have HR0 : Hid (itemsF (s.data.toList.drop 0) 0 [] [] = R) := Lib.hid hR
  clear hR
  obtain ⟨w0, hw0⟩ : ∃ x, w.alloc (.cells #[.int .i64 0, .int .i64 0] 27) = x := ⟨_, rfl⟩
  have hsz : w0.heap.size = w.heap.size + 1 := by rw [← hw0]; simp
  have HW0 : Hid (Below w.heap.size w w0) := Lib.hid (by rw [← hw0]; exact (Below.refl _ _).alloc (Nat.le_refl _) _)
  have hb0 : w0.heap[w.heap.size]? = some (.cells #[.int .i64 0, .int .i64 0] 27 (0, 0)) := by rw [← hw0]; exact heap_alloc_new w _
  have HB0 := Lib.hid hb0
  have HW := Lib.hid hw0
  clear hb0 hw0
  go_enter Tryd.func5, Tryd.ntmps5
  go_wp2
  rw [HW.out]
  go_loopw [4, 5] (fun v c wr => ∃ (oa : Option Addr) (n cap i : Nat) (acc : List (List UInt8)) (cur : List UInt8), v = .slice oa (n + 1) cap ∧ c = .int .i64 (i : Int) ∧ i ≤ s.size ∧ n ≤ i ∧ cur.length ≤ i ∧ Hid (RSt w0 R s.data.toList (.slice oa (n + 1) cap) n i acc cur wr)) (fun _ c _ => s.size - (intOf c).toNat)
  case atStart => exact ⟨_, 0, 1, 0, [], [], rfl, rfl, by omega, by omega, by simp, Lib.hid ⟨rfl, by have h := World.ownsRow_lit (size := 1) (e := 9) w0 #[.string ⟨#[]⟩] 1 (Nat.le_refl w0.heap.size) (by unfold maxLen; omega) rfl; rw [hsz] at h ⊢; exact h, (Below.refl _ _).alloc (Nat.le_refl _) _, HR0.out⟩⟩
  case round =>
    obtain ⟨oa, n, cap, i, acc, cur, rfl, rfl, his, hn, hcl, HS⟩ := hrel
    obtain ⟨wA, rfl⟩ : ∃ wo : World, wo = wr := ⟨_, rfl⟩
    have HSZ := Lib.hid HS.out.2.2.1.size
    have HBL := Lib.hid HS.out.2.2.1
    have bx := (HS.out.2.2.1.block w.heap.size (by omega)).trans HB0.out
    have p0 : wA.cell? ⟨w.heap.size, 0, none⟩ = some (.int .i64 0) := by rw [Lib.cell_of_heap bx]; rfl
    have p1 : wA.cell? ⟨w.heap.size, 1, none⟩ = some (.int .i64 0) := by rw [Lib.cell_of_heap bx]; rfl
    have f0 : wA.frozen? ⟨w.heap.size, 0, none⟩ = false := frozen_of_row wA w.heap.size 0 _ _ bx
    have f1 : wA.frozen? ⟨w.heap.size, 1, none⟩ = false := frozen_of_row wA w.heap.size 1 _ _ bx
    clear bx
    by_cases hi : i < s.size
    · have HD := Lib.hid (drop_at s i hi)
      have hx := one_ext s i hi
      obtain ⟨cz, hcz⟩ : ∃ z, cur.length = z := ⟨_, rfl⟩
      rw [hcz] at hcl
      have HCZ := Lib.hid hcz
      clear hcz
      obtain ⟨b, hb⟩ : ∃ b, s[i] = b := ⟨_, rfl⟩
      rw [hb] at hx HD
      clear hb
      have a1 : (0 : Int) ≤ (i : Int) + 1 := by omega
      have a2 : ((i : Int) + 1).toNat = i + 1 := by omega
      have a3 : (i : Int) + 1 ≤ (s.size : Int) := by omega
      have a4 : (i : Int) ≤ (i : Int) + 1 := by omega
      by_cases h59 : b = 59
      · subst h59
        have hE : IRes.bad i = R := by have h := HS.out.2.2.2; rw [HD.out, it_semi] at h; exact h
        subst hE
        go_wp2
        refine bodyPost_ret (v := .tuple #[.slice none 0 0, .agg #[.int .i64 5, .int .i64 (i : Int)]]) (by simp [results, Tryd.results5, go_sem, p0, p1]) rfl ?_
        exact ⟨(HW0.out.trans (((HBL.out.mono (Nat.le_trans (Nat.le_succ _) (Nat.le_of_eq hsz.symm))).setCell (p := ⟨w.heap.size, 0, none⟩) (Nat.le_refl _) _).setCell (p := ⟨w.heap.size, 1, none⟩) (Nat.le_refl _) _)), rfl⟩
      · have m59 : (b == 59) = false := by simpa using h59
        by_cases h44 : b = 44
        · subst h44
          have HN : Hid (itemsF (s.data.toList.drop (i + 1)) (i + 1) (acc ++ [cur]) [] = R) := Lib.hid (by have h := HS.out.2.2.2; rw [HD.out, it_comma] at h; exact h)
          clear h59 m59
          go_wp2_with (at_builtin; refine wpList_append_own _ rfl (.tmp 26) (.tmp 27) 22 rfl w0.heap.size 9 i0 (.string ⟨#[]⟩) 1 16 Tryd.underlying22 hi0 hz0 hz1 hz2 rfl (by decide) _ (n + 1) (strV (acc ++ [cur])) rfl (HS.out.row.alloc _) _ 1 1 [.string ⟨#[]⟩] rfl rfl (cells_at (by simp) _ _) (by simp [Value.oneCell']) (by unfold maxLen; omega) (by omega) (by have := HSZ.out; simp; omega) ?_; intro v3 w3 hown hgrow _)
          obtain ⟨g3, c3, hv3, _, _⟩ := hown.form (by omega)
          subst hv3
          have HB3 := Lib.hid ((HBL.out.alloc HSZ.out _).grown hgrow (by have := HSZ.out; simp; omega) (fun k hk => (HS.out.row.lt k hk).1))
          have HO3 : Hid (StrL w3 w0.heap.size (.slice (some ⟨g3, 0, none⟩) (n + 1 + 1) c3) ((acc ++ [cur]) ++ [[]])) := Lib.hid (by unfold StrL; rw [strV_snoc, List.length_append, List.length_append, HS.out.1]; exact hown)
          clear hown hgrow
          go_wp2_with fail
          go_roundw
          case rel => exact ⟨some ⟨g3, 0, none⟩, n + 1, c3, i + 1, acc ++ [cur], [], rfl, by go_num, by omega, by omega, by simp, Lib.hid ⟨by rw [List.length_append, HS.out.1]; rfl, HO3.out, HB3.out, HN.out⟩⟩
          case measure => simp [intOf]; omega
        · have m44 : (b == 44) = false := by simpa using h44
          by_cases h92 : b = 92
          · subst h92
            clear h59 m59 h44 m44
            by_cases hi2 : i + 1 < s.size
            · have HD2 := Lib.hid (drop_at s (i + 1) hi2)
              have hx2 := one_ext s (i + 1) hi2
              have q1 : (0 : Int) ≤ (i : Int) + 2 := by omega
              have q2 : ((i : Int) + 2).toNat = i + 1 + 1 := by omega
              have q3 : (i : Int) + 2 ≤ (s.size : Int) := by omega
              have q4 : (i : Int) + 1 ≤ (i : Int) + 2 := by omega
              have q5 : (i : Int) + 1 < (s.size : Int) := by omega
              obtain ⟨d, hd⟩ : ∃ d, s[i + 1] = d := ⟨_, rfl⟩
              rw [hd] at hx2 HD2
              clear hd
              by_cases h110 : d = 110
              · subst h110
                have HN : Hid (itemsF (s.data.toList.drop (i + 2)) (i + 2) acc (cur ++ [10]) = R) := Lib.hid (by have h := HS.out.2.2.2; rw [HD.out, HD2.out, it_nl _ _ _ _ _ (by decide)] at h; exact h)
                obtain ⟨C, hC⟩ : ∃ C : ByteArray, (⟨cur.toArray⟩ : ByteArray) = C := ⟨_, rfl⟩
                have hCl : C.data.toList = cur := by rw [← hC]
                have hCs : C.size ≤ 1048576 := by have h1 := HCZ.out; rw [← hCl, len_eq] at h1; omega
                obtain ⟨g4, hoa, hgb4, hgz4, hc, hf⟩ := StrL.at (k := n) HS.out.2.1 (by rw [List.length_append, HS.out.1]; simp)
                subst hoa
                rw [get_last _ _ _ HS.out.1, hC] at hc
                have HCL : Hid ((C ++ ⟨#[10]⟩ : ByteArray).data.toList = cur ++ [10]) := Lib.hid (by rw [ByteArray.data_append, Array.toList_append, hCl])
                have q0 : IntKind.i64.wrap (n : Int) = (n : Int) := IntWalk.i64_in _ (by omega)
                have q01 : (0 : Int) ≤ (n : Int) := by omega
                have q02 : (n : Int) < (n : Int) + 1 := by omega
                clear hCl hC
                go_wp2_with fail
                have HO3 : Hid (StrL (wA.setCell ⟨g4, n, none⟩ (.string (C ++ ⟨#[10]⟩))) w0.heap.size (.slice (some ⟨g4, 0, none⟩) (n + 1) cap) (acc ++ [cur ++ [10]])) := Lib.hid (by have h := StrL.set HS.out.2.1 n (C ++ ⟨#[10]⟩).data.toList; rw [set_last _ _ _ _ HS.out.1, HCL.out] at h; rw [← HCL.out] at h ⊢; exact h)
                have HB3 := Lib.hid (HBL.out.setCell (p := ⟨g4, n, none⟩) hgb4 (.string (C ++ ⟨#[10]⟩)))
                clear hc hf
                go_roundw
                case rel => exact ⟨some ⟨g4, 0, none⟩, n, cap, i + 2, acc, cur ++ [10], rfl, by go_num, by omega, by omega, by have := HCZ.out; simp; omega, Lib.hid ⟨HS.out.1, HO3.out, HB3.out, HN.out⟩⟩
                case measure => simp [intOf]; omega
              · have m110 : (d == 110) = false := by simpa using h110
                by_cases h78 : d = 78
                · subst h78
                  have HN : Hid (itemsF (s.data.toList.drop (i + 2)) (i + 2) acc (cur ++ [10]) = R) := Lib.hid (by have h := HS.out.2.2.2; rw [HD.out, HD2.out, it_nl _ _ _ _ _ (by decide)] at h; exact h)
                  obtain ⟨C, hC⟩ : ∃ C : ByteArray, (⟨cur.toArray⟩ : ByteArray) = C := ⟨_, rfl⟩
                  have hCl : C.data.toList = cur := by rw [← hC]
                  have hCs : C.size ≤ 1048576 := by have h1 := HCZ.out; rw [← hCl, len_eq] at h1; omega
                  obtain ⟨g4, hoa, hgb4, hgz4, hc, hf⟩ := StrL.at (k := n) HS.out.2.1 (by rw [List.length_append, HS.out.1]; simp)
                  subst hoa
                  rw [get_last _ _ _ HS.out.1, hC] at hc
                  have HCL : Hid ((C ++ ⟨#[10]⟩ : ByteArray).data.toList = cur ++ [10]) := Lib.hid (by rw [ByteArray.data_append, Array.toList_append, hCl])
                  have q0 : IntKind.i64.wrap (n : Int) = (n : Int) := IntWalk.i64_in _ (by omega)
                  have q01 : (0 : Int) ≤ (n : Int) := by omega
                  have q02 : (n : Int) < (n : Int) + 1 := by omega
                  clear hCl hC
                  go_wp2_with fail
                  have HO3 : Hid (StrL (wA.setCell ⟨g4, n, none⟩ (.string (C ++ ⟨#[10]⟩))) w0.heap.size (.slice (some ⟨g4, 0, none⟩) (n + 1) cap) (acc ++ [cur ++ [10]])) := Lib.hid (by have h := StrL.set HS.out.2.1 n (C ++ ⟨#[10]⟩).data.toList; rw [set_last _ _ _ _ HS.out.1, HCL.out] at h; rw [← HCL.out] at h ⊢; exact h)
                  have HB3 := Lib.hid (HBL.out.setCell (p := ⟨g4, n, none⟩) hgb4 (.string (C ++ ⟨#[10]⟩)))
                  clear hc hf
                  go_roundw
                  case rel => exact ⟨some ⟨g4, 0, none⟩, n, cap, i + 2, acc, cur ++ [10], rfl, by go_num, by omega, by omega, by have := HCZ.out; simp; omega, Lib.hid ⟨HS.out.1, HO3.out, HB3.out, HN.out⟩⟩
                  case measure => simp [intOf]; omega
                · have m78 : (d == 78) = false := by simpa using h78
                  by_cases hes : d = 92 ∨ d = 44 ∨ d = 59
                  · have HN : Hid (itemsF (s.data.toList.drop (i + 2)) (i + 2) acc (cur ++ [d]) = R) := Lib.hid (by have h := HS.out.2.2.2; rw [HD.out, HD2.out, it_esc _ _ _ _ _ (by rintro (rfl | rfl); exact h110 rfl; exact h78 rfl) hes] at h; exact h)
                    clear h110 m110 h78 m78
                    rcases hes with rfl | rfl | rfl
                    · obtain ⟨C, hC⟩ : ∃ C : ByteArray, (⟨cur.toArray⟩ : ByteArray) = C := ⟨_, rfl⟩
                      have hCl : C.data.toList = cur := by rw [← hC]
                      have hCs : C.size ≤ 1048576 := by have h1 := HCZ.out; rw [← hCl, len_eq] at h1; omega
                      obtain ⟨g4, hoa, hgb4, hgz4, hc, hf⟩ := StrL.at (k := n) HS.out.2.1 (by rw [List.length_append, HS.out.1]; simp)
                      subst hoa
                      rw [get_last _ _ _ HS.out.1, hC] at hc
                      have HCL : Hid ((C ++ ⟨#[92]⟩ : ByteArray).data.toList = cur ++ [92]) := Lib.hid (by rw [ByteArray.data_append, Array.toList_append, hCl])
                      have q0 : IntKind.i64.wrap (n : Int) = (n : Int) := IntWalk.i64_in _ (by omega)
                      have q01 : (0 : Int) ≤ (n : Int) := by omega
                      have q02 : (n : Int) < (n : Int) + 1 := by omega
                      clear hCl hC
                      go_wp2_with fail
                      have HO3 : Hid (StrL (wA.setCell ⟨g4, n, none⟩ (.string (C ++ ⟨#[92]⟩))) w0.heap.size (.slice (some ⟨g4, 0, none⟩) (n + 1) cap) (acc ++ [cur ++ [92]])) := Lib.hid (by have h := StrL.set HS.out.2.1 n (C ++ ⟨#[92]⟩).data.toList; rw [set_last _ _ _ _ HS.out.1, HCL.out] at h; rw [← HCL.out] at h ⊢; exact h)
                      have HB3 := Lib.hid (HBL.out.setCell (p := ⟨g4, n, none⟩) hgb4 (.string (C ++ ⟨#[92]⟩)))
                      clear hc hf
                      go_roundw
                      case rel => exact ⟨some ⟨g4, 0, none⟩, n, cap, i + 2, acc, cur ++ [92], rfl, by go_num, by omega, by omega, by have := HCZ.out; simp; omega, Lib.hid ⟨HS.out.1, HO3.out, HB3.out, HN.out⟩⟩
                      case measure => simp [intOf]; omega
                    · obtain ⟨C, hC⟩ : ∃ C : ByteArray, (⟨cur.toArray⟩ : ByteArray) = C := ⟨_, rfl⟩
                      have hCl : C.data.toList = cur := by rw [← hC]
                      have hCs : C.size ≤ 1048576 := by have h1 := HCZ.out; rw [← hCl, len_eq] at h1; omega
                      obtain ⟨g4, hoa, hgb4, hgz4, hc, hf⟩ := StrL.at (k := n) HS.out.2.1 (by rw [List.length_append, HS.out.1]; simp)
                      subst hoa
                      rw [get_last _ _ _ HS.out.1, hC] at hc
                      have HCL : Hid ((C ++ ⟨#[44]⟩ : ByteArray).data.toList = cur ++ [44]) := Lib.hid (by rw [ByteArray.data_append, Array.toList_append, hCl])
                      have q0 : IntKind.i64.wrap (n : Int) = (n : Int) := IntWalk.i64_in _ (by omega)
                      have q01 : (0 : Int) ≤ (n : Int) := by omega
                      have q02 : (n : Int) < (n : Int) + 1 := by omega
                      clear hCl hC
                      go_wp2_with fail
                      have HO3 : Hid (StrL (wA.setCell ⟨g4, n, none⟩ (.string (C ++ ⟨#[44]⟩))) w0.heap.size (.slice (some ⟨g4, 0, none⟩) (n + 1) cap) (acc ++ [cur ++ [44]])) := Lib.hid (by have h := StrL.set HS.out.2.1 n (C ++ ⟨#[44]⟩).data.toList; rw [set_last _ _ _ _ HS.out.1, HCL.out] at h; rw [← HCL.out] at h ⊢; exact h)
                      have HB3 := Lib.hid (HBL.out.setCell (p := ⟨g4, n, none⟩) hgb4 (.string (C ++ ⟨#[44]⟩)))
                      clear hc hf
                      go_roundw
                      case rel => exact ⟨some ⟨g4, 0, none⟩, n, cap, i + 2, acc, cur ++ [44], rfl, by go_num, by omega, by omega, by have := HCZ.out; simp; omega, Lib.hid ⟨HS.out.1, HO3.out, HB3.out, HN.out⟩⟩
                      case measure => simp [intOf]; omega
                    · obtain ⟨C, hC⟩ : ∃ C : ByteArray, (⟨cur.toArray⟩ : ByteArray) = C := ⟨_, rfl⟩
                      have hCl : C.data.toList = cur := by rw [← hC]
                      have hCs : C.size ≤ 1048576 := by have h1 := HCZ.out; rw [← hCl, len_eq] at h1; omega
                      obtain ⟨g4, hoa, hgb4, hgz4, hc, hf⟩ := StrL.at (k := n) HS.out.2.1 (by rw [List.length_append, HS.out.1]; simp)
                      subst hoa
                      rw [get_last _ _ _ HS.out.1, hC] at hc
                      have HCL : Hid ((C ++ ⟨#[59]⟩ : ByteArray).data.toList = cur ++ [59]) := Lib.hid (by rw [ByteArray.data_append, Array.toList_append, hCl])
                      have q0 : IntKind.i64.wrap (n : Int) = (n : Int) := IntWalk.i64_in _ (by omega)
                      have q01 : (0 : Int) ≤ (n : Int) := by omega
                      have q02 : (n : Int) < (n : Int) + 1 := by omega
                      clear hCl hC
                      go_wp2_with fail
                      have HO3 : Hid (StrL (wA.setCell ⟨g4, n, none⟩ (.string (C ++ ⟨#[59]⟩))) w0.heap.size (.slice (some ⟨g4, 0, none⟩) (n + 1) cap) (acc ++ [cur ++ [59]])) := Lib.hid (by have h := StrL.set HS.out.2.1 n (C ++ ⟨#[59]⟩).data.toList; rw [set_last _ _ _ _ HS.out.1, HCL.out] at h; rw [← HCL.out] at h ⊢; exact h)
                      have HB3 := Lib.hid (HBL.out.setCell (p := ⟨g4, n, none⟩) hgb4 (.string (C ++ ⟨#[59]⟩)))
                      clear hc hf
                      go_roundw
                      case rel => exact ⟨some ⟨g4, 0, none⟩, n, cap, i + 2, acc, cur ++ [59], rfl, by go_num, by omega, by omega, by have := HCZ.out; simp; omega, Lib.hid ⟨HS.out.1, HO3.out, HB3.out, HN.out⟩⟩
                      case measure => simp [intOf]; omega
                  · have hE : IRes.bad i = R := by have h := HS.out.2.2.2; rw [HD.out, HD2.out, it_bad _ _ _ _ _ (by rintro (rfl | rfl); exact h110 rfl; exact h78 rfl) hes] at h; exact h
                    subst hE
                    have m92 : (d == 92) = false := by simpa using fun e => hes (.inl e)
                    have m44 : (d == 44) = false := by simpa using fun e => hes (.inr (.inl e))
                    have m59 : (d == 59) = false := by simpa using fun e => hes (.inr (.inr e))
                    clear h110 h78 hes
                    go_wp2
                    refine bodyPost_ret (v := .tuple #[.slice none 0 0, .agg #[.int .i64 5, .int .i64 (i : Int)]]) (by simp [results, Tryd.results5, go_sem, p0, p1]) rfl ?_
                    exact ⟨(HW0.out.trans (((HBL.out.mono (Nat.le_trans (Nat.le_succ _) (Nat.le_of_eq hsz.symm))).setCell (p := ⟨w.heap.size, 0, none⟩) (Nat.le_refl _) _).setCell (p := ⟨w.heap.size, 1, none⟩) (Nat.le_refl _) _)), rfl⟩
            · have hE : IRes.bad i = R := by have h := HS.out.2.2.2; rw [HD.out, List.drop_eq_nil_of_le (by rw [len_eq]; omega), it_end] at h; exact h
              subst hE
              have q5 : ¬ (i : Int) + 1 < (s.size : Int) := by omega
              go_wp2
              refine bodyPost_ret (v := .tuple #[.slice none 0 0, .agg #[.int .i64 5, .int .i64 (i : Int)]]) (by simp [results, Tryd.results5, go_sem, p0, p1]) rfl ?_
              exact ⟨(HW0.out.trans (((HBL.out.mono (Nat.le_trans (Nat.le_succ _) (Nat.le_of_eq hsz.symm))).setCell (p := ⟨w.heap.size, 0, none⟩) (Nat.le_refl _) _).setCell (p := ⟨w.heap.size, 1, none⟩) (Nat.le_refl _) _)), rfl⟩
          · have m92 : (b == 92) = false := by simpa using h92
            have HN : Hid (itemsF (s.data.toList.drop (i + 1)) (i + 1) acc (cur ++ [b]) = R) := Lib.hid (by have h := HS.out.2.2.2; rw [HD.out, it_plain _ _ _ _ _ h59 h44 h92] at h; exact h)
            clear h59 h44 h92
            obtain ⟨C, hC⟩ : ∃ C : ByteArray, (⟨cur.toArray⟩ : ByteArray) = C := ⟨_, rfl⟩
            have hCl : C.data.toList = cur := by rw [← hC]
            have hCs : C.size ≤ 1048576 := by have h1 := HCZ.out; rw [← hCl, len_eq] at h1; omega
            obtain ⟨g4, hoa, hgb4, hgz4, hc, hf⟩ := StrL.at (k := n) HS.out.2.1 (by rw [List.length_append, HS.out.1]; simp)
            subst hoa
            rw [get_last _ _ _ HS.out.1, hC] at hc
            have HCL : Hid ((C ++ ⟨#[b]⟩ : ByteArray).data.toList = cur ++ [b]) := Lib.hid (by rw [ByteArray.data_append, Array.toList_append, hCl])
            have q0 : IntKind.i64.wrap (n : Int) = (n : Int) := IntWalk.i64_in _ (by omega)
            have q01 : (0 : Int) ≤ (n : Int) := by omega
            have q02 : (n : Int) < (n : Int) + 1 := by omega
            clear hCl hC
            go_wp2_with fail
            have HO3 : Hid (StrL (wA.setCell ⟨g4, n, none⟩ (.string (C ++ ⟨#[b]⟩))) w0.heap.size (.slice (some ⟨g4, 0, none⟩) (n + 1) cap) (acc ++ [cur ++ [b]])) := Lib.hid (by have h := StrL.set HS.out.2.1 n (C ++ ⟨#[b]⟩).data.toList; rw [set_last _ _ _ _ HS.out.1, HCL.out] at h; rw [← HCL.out] at h ⊢; exact h)
            have HB3 := Lib.hid (HBL.out.setCell (p := ⟨g4, n, none⟩) hgb4 (.string (C ++ ⟨#[b]⟩)))
            clear hc hf
            go_roundw
            case rel => exact ⟨some ⟨g4, 0, none⟩, n, cap, i + 1, acc, cur ++ [b], rfl, by go_num, by omega, by omega, by have := HCZ.out; simp; omega, Lib.hid ⟨HS.out.1, HO3.out, HB3.out, HN.out⟩⟩
            case measure => simp [intOf]; omega
    · have hE : IRes.ok (acc ++ [cur]) = R := by have h := HS.out.2.2.2; rw [List.drop_eq_nil_of_le (by rw [len_eq]; omega), it_nil] at h; exact h
      subst hE
      go_wp2_with (go_at_call 14; refine (fine_any _).mono ?_; rintro e w1 ⟨rfl, hb⟩; have HS1 := Lib.hid (HS.out.2.1.call hb); have HB1 := Lib.hid (HBL.out.trans (hb.mono HSZ.out)); have r0 := (hb.cell (p := ⟨w.heap.size, 0, none⟩) (by have := HSZ.out; show w.heap.size < _; omega)).trans p0; have r1 := (hb.cell (p := ⟨w.heap.size, 1, none⟩) (by have := HSZ.out; show w.heap.size < _; omega)).trans p1; have g0 := (hb.frozen (p := ⟨w.heap.size, 0, none⟩) (by have := HSZ.out; show w.heap.size < _; omega)).trans f0; have g1 := (hb.frozen (p := ⟨w.heap.size, 1, none⟩) (by have := HSZ.out; show w.heap.size < _; omega)).trans f1; clear hb p0 p1 f0 f1)
      refine bodyPost_ret (v := .tuple #[.slice oa (n + 1) cap, .agg #[.int .i64 0, .int .i64 (-1)]]) (by simp [results, Tryd.results5, go_sem, r0, r1]) rfl ?_
      exact ⟨HW0.out.trans (((HB1.out.mono (Nat.le_trans (Nat.le_succ _) (Nat.le_of_eq hsz.symm))).setCell (p := ⟨w.heap.size, 0, none⟩) (Nat.le_refl _) _).setCell (p := ⟨w.heap.size, 1, none⟩) (Nat.le_refl _) _), _, rfl, (StrL.low (ownsRow_setCell_below (ownsRow_setCell_below HS1.out (a := ⟨w.heap.size, 0, none⟩) (by show w.heap.size < _; omega) _) (a := ⟨w.heap.size, 1, none⟩) (by show w.heap.size < _; omega) _) (by omega))⟩
end Go.Proofs.YthlpknmfpbhlhaaDoor
