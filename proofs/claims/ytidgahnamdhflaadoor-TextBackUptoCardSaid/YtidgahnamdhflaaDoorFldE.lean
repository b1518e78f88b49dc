/- The document's Fold. -/
import Derived.Test.YtidgahnamdhflaaDoorFldC
namespace Go.Proofs.YtidgahnamdhflaaDoor
open Go.RowKit Go.Shelf Fld
def contF (d : Nat) (l : List UInt8) : List UInt8 := (if d = 1 then [32] else []) ++ (l.take (cutN l (75 - d)) ++ ([13, 10] ++ foldT (l.drop (cutN l (75 - d)))))
theorem contF_zero (l : List UInt8) : contF 0 l = foldL l := by simp [contF, foldL]
theorem contF_one (l : List UInt8) (h : l ≠ []) : foldT l = contF 1 l := by rw [foldT_cons l h]; simp [contF]
theorem empty_list : (⟨#[]⟩ : ByteArray).data.toList = [] := rfl
theorem sp_list : (⟨#[32]⟩ : ByteArray).data.toList = [32] := rfl
set_option maxRecDepth 100000 in
set_option maxHeartbeats 8000000 in
theorem rfold_any (s : ByteArray) (w : World) (hs : s.size ≤ 1099511627776) :
    Calls Tryd.prog 34 #[.string s] w fun e w' => e = .returned (.string ⟨(foldL s.data.toList).toArray⟩) ∧ w' = w := by
  have HT := Lib.hid (foldL_len s.data.toList)
  go_enter Tryd.func34, Tryd.ntmps34
  go_wp2
  go_loop [0, 3, 4] (fun ln out ld => ∃ (d : Nat) (r o : ByteArray), ln = .string r ∧ out = .string o ∧ (d = 0 ∧ ld = .string ⟨#[]⟩ ∨ d = 1 ∧ ld = .string ⟨#[32]⟩) ∧ r.size ≤ s.size ∧ Hid (o.data.toList ++ contF d r.data.toList = foldL s.data.toList)) (fun ln _ _ => match ln with | .string r => r.size | _ => 0)
  case atStart => exact ⟨0, s, ⟨#[]⟩, rfl, rfl, .inl ⟨rfl, rfl⟩, Nat.le_refl _, Lib.hid (by rw [contF_zero]; rfl)⟩
  case round =>
    obtain ⟨d, r, o, rfl, rfl, hd, hrs, HR⟩ := hrel
    have ho : o.size ≤ 4 * s.size + 2 := by have h1 := HT.out; rw [← HR.out, List.length_append, len_eq, len_eq] at h1; omega
    rcases hd with ⟨rfl, rfl⟩ | ⟨rfl, rfl⟩
    · obtain ⟨N, hN⟩ : ∃ N, cutN r.data.toList 75 = N := ⟨_, rfl⟩
      have nbd := cutN_bd r.data.toList 75 (by omega)
      rw [hN, len_eq] at nbd
      obtain ⟨n1, n2, n3⟩ := nbd
      have HB3 := Lib.hid n3
      have HN : Hid ((o ++ ⟨#[]⟩ ++ r.extract 0 N ++ ⟨#[13, 10]⟩ : ByteArray).data.toList ++ foldT (r.extract N r.size).data.toList = foldL s.data.toList) := by
        refine Lib.hid ?_
        rw [← HR.out, contF, show 75 - 0 = 75 from rfl, hN, ByteArray.data_append, ByteArray.data_append, ByteArray.data_append, Array.toList_append, Array.toList_append, Array.toList_append, ext_to, ext_from, crlf_list, empty_list]
        simp
      have z1 : (r.extract 0 N).size = N := by rw [ByteArray.size_extract]; omega
      clear n3
      by_cases hle : r.size ≤ 75
      · have e : r.size = N := by rw [← hN]; unfold cutN; rw [if_pos (by rw [len_eq]; exact hle), len_eq]
        clear hN
        have q1 : decide ((75 : Int) < (r.size : Int)) = false := by simp; omega
        have hE : (r.extract N r.size).data.toList = [] := by rw [ext_from]; exact List.drop_eq_nil_of_le (by rw [len_eq]; omega)
        have hF : (o ++ ⟨#[]⟩ ++ r.extract 0 N ++ ⟨#[13, 10]⟩ : ByteArray) = ⟨(foldL s.data.toList).toArray⟩ := str_eq (by have h := HN.out; rw [hE, foldT_nil, List.append_nil] at h; exact h)
        have HE := Lib.hid hF
        have hE2 : (r.extract N r.size).toList.isEmpty = true := by rw [ByteArray.toList_eq, hE]; rfl
        clear hF hE
        go_wp2
        go_ret
        exact ⟨by rw [← HE.out]; rfl, rfl⟩
      · have h0 : cutFrom r.data.toList 75 0 = N := by rw [← hN]; unfold cutN; rw [if_neg (by rw [len_eq]; exact hle)]
        have H0 := Lib.hid h0
        clear hN h0
        have q1 : decide ((75 : Int) < (r.size : Int)) = true := by simp; omega
        go_wp2
        go_loop [5, 6] (fun n k => ∃ j : Nat, j < 4 ∧ k = .int .i64 (j : Int) ∧ n = .int .i64 75 ∧ Hid (cutFrom r.data.toList 75 j = N)) (fun _ k => 4 - (intOf k).toNat)
        case atStart => exact ⟨0, by omega, rfl, rfl, H0⟩
        case round =>
          obtain ⟨j, hj, rfl, rfl, HJ⟩ := hrel
          have hj4 : j = 0 ∨ j = 1 ∨ j = 2 ∨ j = 3 := by omega
          rcases hj4 with rfl | rfl | rfl | rfl
          · have i1 : 75 < r.size := by omega
            have g1 := getD_byte r 75 i1
            rcases hst : stB r[75] with _ | _
            · have HK := Lib.hid (cutFrom_miss r.data.toList 75 0 (by omega) (by rw [show 75 - 0 = 75 from rfl, g1]; exact hst) ▸ HJ.out)
              clear g1
              go_wp2_with (go_at_call 56; refine (goesOn_any _ _).mono ?_; rintro e w' ⟨rfl, rfl⟩)
              go_round
              case rel => exact ⟨1, by omega, by go_num, rfl, HK⟩
              case measure => simp [intOf]
            · have e : N = 75 := by rw [← HJ.out, cutFrom_hit r.data.toList 75 0 (by omega) (by rw [show 75 - 0 = 75 from rfl, g1]; exact hst)]
              subst e
              clear g1
              by_cases hE : (r.extract 75 r.size).data.toList = []
              · have hF : (o ++ ⟨#[]⟩ ++ r.extract 0 75 ++ ⟨#[13, 10]⟩ : ByteArray) = ⟨(foldL s.data.toList).toArray⟩ := str_eq (by have h := HN.out; rw [hE, foldT_nil, List.append_nil] at h; exact h)
                have HE := Lib.hid hF
                have hE2 : (r.extract 75 r.size).toList.isEmpty = true := by rw [ByteArray.toList_eq, hE]; rfl
                clear hF hE
                go_wp2_with (go_at_call 56; refine (goesOn_any _ _).mono ?_; rintro e w' ⟨rfl, rfl⟩)
                go_ret
                exact ⟨by rw [← HE.out]; rfl, rfl⟩
              · have hE2 := not_empty hE
                have hN1 : 1 ≤ 75 := by
                  rcases Nat.eq_zero_or_pos r.size with h | h
                  · exact absurd (by rw [ext_from]; rw [← len_eq] at h; rw [List.eq_nil_of_length_eq_zero h]; simp) hE
                  · exact HB3.out (by intro h0; rw [← len_eq, h0] at h; simp at h)
                have HX := Lib.hid (contF_one _ hE)
                clear hE
                go_wp2_with (go_at_call 56; refine (goesOn_any _ _).mono ?_; rintro e w' ⟨rfl, rfl⟩)
                go_round
                case rel => exact ⟨1, _, _, rfl, rfl, .inr ⟨rfl, rfl⟩, by rw [ByteArray.size_extract]; omega, Lib.hid (by rw [← HX.out]; exact HN.out)⟩
                case measure => simp [ByteArray.size_extract]; omega
          · have i1 : 74 < r.size := by omega
            have g1 := getD_byte r 74 i1
            rcases hst : stB r[74] with _ | _
            · have HK := Lib.hid (cutFrom_miss r.data.toList 75 1 (by omega) (by rw [show 75 - 1 = 74 from rfl, g1]; exact hst) ▸ HJ.out)
              clear g1
              go_wp2_with (go_at_call 56; refine (goesOn_any _ _).mono ?_; rintro e w' ⟨rfl, rfl⟩)
              go_round
              case rel => exact ⟨2, by omega, by go_num, rfl, HK⟩
              case measure => simp [intOf]
            · have e : N = 74 := by rw [← HJ.out, cutFrom_hit r.data.toList 75 1 (by omega) (by rw [show 75 - 1 = 74 from rfl, g1]; exact hst)]
              subst e
              clear g1
              by_cases hE : (r.extract 74 r.size).data.toList = []
              · have hF : (o ++ ⟨#[]⟩ ++ r.extract 0 74 ++ ⟨#[13, 10]⟩ : ByteArray) = ⟨(foldL s.data.toList).toArray⟩ := str_eq (by have h := HN.out; rw [hE, foldT_nil, List.append_nil] at h; exact h)
                have HE := Lib.hid hF
                have hE2 : (r.extract 74 r.size).toList.isEmpty = true := by rw [ByteArray.toList_eq, hE]; rfl
                clear hF hE
                go_wp2_with (go_at_call 56; refine (goesOn_any _ _).mono ?_; rintro e w' ⟨rfl, rfl⟩)
                go_ret
                exact ⟨by rw [← HE.out]; rfl, rfl⟩
              · have hE2 := not_empty hE
                have hN1 : 1 ≤ 74 := by
                  rcases Nat.eq_zero_or_pos r.size with h | h
                  · exact absurd (by rw [ext_from]; rw [← len_eq] at h; rw [List.eq_nil_of_length_eq_zero h]; simp) hE
                  · exact HB3.out (by intro h0; rw [← len_eq, h0] at h; simp at h)
                have HX := Lib.hid (contF_one _ hE)
                clear hE
                go_wp2_with (go_at_call 56; refine (goesOn_any _ _).mono ?_; rintro e w' ⟨rfl, rfl⟩)
                go_round
                case rel => exact ⟨1, _, _, rfl, rfl, .inr ⟨rfl, rfl⟩, by rw [ByteArray.size_extract]; omega, Lib.hid (by rw [← HX.out]; exact HN.out)⟩
                case measure => simp [ByteArray.size_extract]; omega
          · have i1 : 73 < r.size := by omega
            have g1 := getD_byte r 73 i1
            rcases hst : stB r[73] with _ | _
            · have HK := Lib.hid (cutFrom_miss r.data.toList 75 2 (by omega) (by rw [show 75 - 2 = 73 from rfl, g1]; exact hst) ▸ HJ.out)
              clear g1
              go_wp2_with (go_at_call 56; refine (goesOn_any _ _).mono ?_; rintro e w' ⟨rfl, rfl⟩)
              go_round
              case rel => exact ⟨3, by omega, by go_num, rfl, HK⟩
              case measure => simp [intOf]
            · have e : N = 73 := by rw [← HJ.out, cutFrom_hit r.data.toList 75 2 (by omega) (by rw [show 75 - 2 = 73 from rfl, g1]; exact hst)]
              subst e
              clear g1
              by_cases hE : (r.extract 73 r.size).data.toList = []
              · have hF : (o ++ ⟨#[]⟩ ++ r.extract 0 73 ++ ⟨#[13, 10]⟩ : ByteArray) = ⟨(foldL s.data.toList).toArray⟩ := str_eq (by have h := HN.out; rw [hE, foldT_nil, List.append_nil] at h; exact h)
                have HE := Lib.hid hF
                have hE2 : (r.extract 73 r.size).toList.isEmpty = true := by rw [ByteArray.toList_eq, hE]; rfl
                clear hF hE
                go_wp2_with (go_at_call 56; refine (goesOn_any _ _).mono ?_; rintro e w' ⟨rfl, rfl⟩)
                go_ret
                exact ⟨by rw [← HE.out]; rfl, rfl⟩
              · have hE2 := not_empty hE
                have hN1 : 1 ≤ 73 := by
                  rcases Nat.eq_zero_or_pos r.size with h | h
                  · exact absurd (by rw [ext_from]; rw [← len_eq] at h; rw [List.eq_nil_of_length_eq_zero h]; simp) hE
                  · exact HB3.out (by intro h0; rw [← len_eq, h0] at h; simp at h)
                have HX := Lib.hid (contF_one _ hE)
                clear hE
                go_wp2_with (go_at_call 56; refine (goesOn_any _ _).mono ?_; rintro e w' ⟨rfl, rfl⟩)
                go_round
                case rel => exact ⟨1, _, _, rfl, rfl, .inr ⟨rfl, rfl⟩, by rw [ByteArray.size_extract]; omega, Lib.hid (by rw [← HX.out]; exact HN.out)⟩
                case measure => simp [ByteArray.size_extract]; omega
          · have i1 : 72 < r.size := by omega
            have g1 := getD_byte r 72 i1
            rcases hst : stB r[72] with _ | _
            · have HK := Lib.hid (cutFrom_miss r.data.toList 75 3 (by omega) (by rw [show 75 - 3 = 72 from rfl, g1]; exact hst) ▸ HJ.out)
              clear g1
              have e : N = 75 := by rw [← HK.out, cutFrom_end _ _ _ (by omega)]
              subst e
              by_cases hE : (r.extract 75 r.size).data.toList = []
              · have hF : (o ++ ⟨#[]⟩ ++ r.extract 0 75 ++ ⟨#[13, 10]⟩ : ByteArray) = ⟨(foldL s.data.toList).toArray⟩ := str_eq (by have h := HN.out; rw [hE, foldT_nil, List.append_nil] at h; exact h)
                have HE := Lib.hid hF
                have hE2 : (r.extract 75 r.size).toList.isEmpty = true := by rw [ByteArray.toList_eq, hE]; rfl
                clear hF hE
                go_wp2_with (go_at_call 56; refine (goesOn_any _ _).mono ?_; rintro e w' ⟨rfl, rfl⟩)
                go_ret
                exact ⟨by rw [← HE.out]; rfl, rfl⟩
              · have hE2 := not_empty hE
                have hN1 : 1 ≤ 75 := by
                  rcases Nat.eq_zero_or_pos r.size with h | h
                  · exact absurd (by rw [ext_from]; rw [← len_eq] at h; rw [List.eq_nil_of_length_eq_zero h]; simp) hE
                  · exact HB3.out (by intro h0; rw [← len_eq, h0] at h; simp at h)
                have HX := Lib.hid (contF_one _ hE)
                clear hE
                go_wp2_with (go_at_call 56; refine (goesOn_any _ _).mono ?_; rintro e w' ⟨rfl, rfl⟩)
                go_round
                case rel => exact ⟨1, _, _, rfl, rfl, .inr ⟨rfl, rfl⟩, by rw [ByteArray.size_extract]; omega, Lib.hid (by rw [← HX.out]; exact HN.out)⟩
                case measure => simp [ByteArray.size_extract]; omega
            · have e : N = 72 := by rw [← HJ.out, cutFrom_hit r.data.toList 75 3 (by omega) (by rw [show 75 - 3 = 72 from rfl, g1]; exact hst)]
              subst e
              clear g1
              by_cases hE : (r.extract 72 r.size).data.toList = []
              · have hF : (o ++ ⟨#[]⟩ ++ r.extract 0 72 ++ ⟨#[13, 10]⟩ : ByteArray) = ⟨(foldL s.data.toList).toArray⟩ := str_eq (by have h := HN.out; rw [hE, foldT_nil, List.append_nil] at h; exact h)
                have HE := Lib.hid hF
                have hE2 : (r.extract 72 r.size).toList.isEmpty = true := by rw [ByteArray.toList_eq, hE]; rfl
                clear hF hE
                go_wp2_with (go_at_call 56; refine (goesOn_any _ _).mono ?_; rintro e w' ⟨rfl, rfl⟩)
                go_ret
                exact ⟨by rw [← HE.out]; rfl, rfl⟩
              · have hE2 := not_empty hE
                have hN1 : 1 ≤ 72 := by
                  rcases Nat.eq_zero_or_pos r.size with h | h
                  · exact absurd (by rw [ext_from]; rw [← len_eq] at h; rw [List.eq_nil_of_length_eq_zero h]; simp) hE
                  · exact HB3.out (by intro h0; rw [← len_eq, h0] at h; simp at h)
                have HX := Lib.hid (contF_one _ hE)
                clear hE
                go_wp2_with (go_at_call 56; refine (goesOn_any _ _).mono ?_; rintro e w' ⟨rfl, rfl⟩)
                go_round
                case rel => exact ⟨1, _, _, rfl, rfl, .inr ⟨rfl, rfl⟩, by rw [ByteArray.size_extract]; omega, Lib.hid (by rw [← HX.out]; exact HN.out)⟩
                case measure => simp [ByteArray.size_extract]; omega
    · obtain ⟨N, hN⟩ : ∃ N, cutN r.data.toList 74 = N := ⟨_, rfl⟩
      have nbd := cutN_bd r.data.toList 74 (by omega)
      rw [hN, len_eq] at nbd
      obtain ⟨n1, n2, n3⟩ := nbd
      have HB3 := Lib.hid n3
      have HN : Hid ((o ++ ⟨#[32]⟩ ++ r.extract 0 N ++ ⟨#[13, 10]⟩ : ByteArray).data.toList ++ foldT (r.extract N r.size).data.toList = foldL s.data.toList) := by
        refine Lib.hid ?_
        rw [← HR.out, contF, show 75 - 1 = 74 from rfl, hN, ByteArray.data_append, ByteArray.data_append, ByteArray.data_append, Array.toList_append, Array.toList_append, Array.toList_append, ext_to, ext_from, crlf_list, sp_list]
        simp
      have z1 : (r.extract 0 N).size = N := by rw [ByteArray.size_extract]; omega
      clear n3
      by_cases hle : r.size ≤ 74
      · have e : r.size = N := by rw [← hN]; unfold cutN; rw [if_pos (by rw [len_eq]; exact hle), len_eq]
        clear hN
        have q1 : decide ((75 : Int) < 1 + (r.size : Int)) = false := by simp; omega
        have hE : (r.extract N r.size).data.toList = [] := by rw [ext_from]; exact List.drop_eq_nil_of_le (by rw [len_eq]; omega)
        have hF : (o ++ ⟨#[32]⟩ ++ r.extract 0 N ++ ⟨#[13, 10]⟩ : ByteArray) = ⟨(foldL s.data.toList).toArray⟩ := str_eq (by have h := HN.out; rw [hE, foldT_nil, List.append_nil] at h; exact h)
        have HE := Lib.hid hF
        have hE2 : (r.extract N r.size).toList.isEmpty = true := by rw [ByteArray.toList_eq, hE]; rfl
        clear hF hE
        go_wp2
        go_ret
        exact ⟨by rw [← HE.out]; rfl, rfl⟩
      · have h0 : cutFrom r.data.toList 74 0 = N := by rw [← hN]; unfold cutN; rw [if_neg (by rw [len_eq]; exact hle)]
        have H0 := Lib.hid h0
        clear hN h0
        have q1 : decide ((75 : Int) < 1 + (r.size : Int)) = true := by simp; omega
        go_wp2
        go_loop [5, 6] (fun n k => ∃ j : Nat, j < 4 ∧ k = .int .i64 (j : Int) ∧ n = .int .i64 74 ∧ Hid (cutFrom r.data.toList 74 j = N)) (fun _ k => 4 - (intOf k).toNat)
        case atStart => exact ⟨0, by omega, rfl, rfl, H0⟩
        case round =>
          obtain ⟨j, hj, rfl, rfl, HJ⟩ := hrel
          have hj4 : j = 0 ∨ j = 1 ∨ j = 2 ∨ j = 3 := by omega
          rcases hj4 with rfl | rfl | rfl | rfl
          · have i1 : 74 < r.size := by omega
            have g1 := getD_byte r 74 i1
            rcases hst : stB r[74] with _ | _
            · have HK := Lib.hid (cutFrom_miss r.data.toList 74 0 (by omega) (by rw [show 74 - 0 = 74 from rfl, g1]; exact hst) ▸ HJ.out)
              clear g1
              go_wp2_with (go_at_call 56; refine (goesOn_any _ _).mono ?_; rintro e w' ⟨rfl, rfl⟩)
              go_round
              case rel => exact ⟨1, by omega, by go_num, rfl, HK⟩
              case measure => simp [intOf]
            · have e : N = 74 := by rw [← HJ.out, cutFrom_hit r.data.toList 74 0 (by omega) (by rw [show 74 - 0 = 74 from rfl, g1]; exact hst)]
              subst e
              clear g1
              by_cases hE : (r.extract 74 r.size).data.toList = []
              · have hF : (o ++ ⟨#[32]⟩ ++ r.extract 0 74 ++ ⟨#[13, 10]⟩ : ByteArray) = ⟨(foldL s.data.toList).toArray⟩ := str_eq (by have h := HN.out; rw [hE, foldT_nil, List.append_nil] at h; exact h)
                have HE := Lib.hid hF
                have hE2 : (r.extract 74 r.size).toList.isEmpty = true := by rw [ByteArray.toList_eq, hE]; rfl
                clear hF hE
                go_wp2_with (go_at_call 56; refine (goesOn_any _ _).mono ?_; rintro e w' ⟨rfl, rfl⟩)
                go_ret
                exact ⟨by rw [← HE.out]; rfl, rfl⟩
              · have hE2 := not_empty hE
                have hN1 : 1 ≤ 74 := by
                  rcases Nat.eq_zero_or_pos r.size with h | h
                  · exact absurd (by rw [ext_from]; rw [← len_eq] at h; rw [List.eq_nil_of_length_eq_zero h]; simp) hE
                  · exact HB3.out (by intro h0; rw [← len_eq, h0] at h; simp at h)
                have HX := Lib.hid (contF_one _ hE)
                clear hE
                go_wp2_with (go_at_call 56; refine (goesOn_any _ _).mono ?_; rintro e w' ⟨rfl, rfl⟩)
                go_round
                case rel => exact ⟨1, _, _, rfl, rfl, .inr ⟨rfl, rfl⟩, by rw [ByteArray.size_extract]; omega, Lib.hid (by rw [← HX.out]; exact HN.out)⟩
                case measure => simp [ByteArray.size_extract]; omega
          · have i1 : 73 < r.size := by omega
            have g1 := getD_byte r 73 i1
            rcases hst : stB r[73] with _ | _
            · have HK := Lib.hid (cutFrom_miss r.data.toList 74 1 (by omega) (by rw [show 74 - 1 = 73 from rfl, g1]; exact hst) ▸ HJ.out)
              clear g1
              go_wp2_with (go_at_call 56; refine (goesOn_any _ _).mono ?_; rintro e w' ⟨rfl, rfl⟩)
              go_round
              case rel => exact ⟨2, by omega, by go_num, rfl, HK⟩
              case measure => simp [intOf]
            · have e : N = 73 := by rw [← HJ.out, cutFrom_hit r.data.toList 74 1 (by omega) (by rw [show 74 - 1 = 73 from rfl, g1]; exact hst)]
              subst e
              clear g1
              by_cases hE : (r.extract 73 r.size).data.toList = []
              · have hF : (o ++ ⟨#[32]⟩ ++ r.extract 0 73 ++ ⟨#[13, 10]⟩ : ByteArray) = ⟨(foldL s.data.toList).toArray⟩ := str_eq (by have h := HN.out; rw [hE, foldT_nil, List.append_nil] at h; exact h)
                have HE := Lib.hid hF
                have hE2 : (r.extract 73 r.size).toList.isEmpty = true := by rw [ByteArray.toList_eq, hE]; rfl
                clear hF hE
                go_wp2_with (go_at_call 56; refine (goesOn_any _ _).mono ?_; rintro e w' ⟨rfl, rfl⟩)
                go_ret
                exact ⟨by rw [← HE.out]; rfl, rfl⟩
              · have hE2 := not_empty hE
                have hN1 : 1 ≤ 73 := by
                  rcases Nat.eq_zero_or_pos r.size with h | h
                  · exact absurd (by rw [ext_from]; rw [← len_eq] at h; rw [List.eq_nil_of_length_eq_zero h]; simp) hE
                  · exact HB3.out (by intro h0; rw [← len_eq, h0] at h; simp at h)
                have HX := Lib.hid (contF_one _ hE)
                clear hE
                go_wp2_with (go_at_call 56; refine (goesOn_any _ _).mono ?_; rintro e w' ⟨rfl, rfl⟩)
                go_round
                case rel => exact ⟨1, _, _, rfl, rfl, .inr ⟨rfl, rfl⟩, by rw [ByteArray.size_extract]; omega, Lib.hid (by rw [← HX.out]; exact HN.out)⟩
                case measure => simp [ByteArray.size_extract]; omega
          · have i1 : 72 < r.size := by omega
            have g1 := getD_byte r 72 i1
            rcases hst : stB r[72] with _ | _
            · have HK := Lib.hid (cutFrom_miss r.data.toList 74 2 (by omega) (by rw [show 74 - 2 = 72 from rfl, g1]; exact hst) ▸ HJ.out)
              clear g1
              go_wp2_with (go_at_call 56; refine (goesOn_any _ _).mono ?_; rintro e w' ⟨rfl, rfl⟩)
              go_round
              case rel => exact ⟨3, by omega, by go_num, rfl, HK⟩
              case measure => simp [intOf]
            · have e : N = 72 := by rw [← HJ.out, cutFrom_hit r.data.toList 74 2 (by omega) (by rw [show 74 - 2 = 72 from rfl, g1]; exact hst)]
              subst e
              clear g1
              by_cases hE : (r.extract 72 r.size).data.toList = []
              · have hF : (o ++ ⟨#[32]⟩ ++ r.extract 0 72 ++ ⟨#[13, 10]⟩ : ByteArray) = ⟨(foldL s.data.toList).toArray⟩ := str_eq (by have h := HN.out; rw [hE, foldT_nil, List.append_nil] at h; exact h)
                have HE := Lib.hid hF
                have hE2 : (r.extract 72 r.size).toList.isEmpty = true := by rw [ByteArray.toList_eq, hE]; rfl
                clear hF hE
                go_wp2_with (go_at_call 56; refine (goesOn_any _ _).mono ?_; rintro e w' ⟨rfl, rfl⟩)
                go_ret
                exact ⟨by rw [← HE.out]; rfl, rfl⟩
              · have hE2 := not_empty hE
                have hN1 : 1 ≤ 72 := by
                  rcases Nat.eq_zero_or_pos r.size with h | h
                  · exact absurd (by rw [ext_from]; rw [← len_eq] at h; rw [List.eq_nil_of_length_eq_zero h]; simp) hE
                  · exact HB3.out (by intro h0; rw [← len_eq, h0] at h; simp at h)
                have HX := Lib.hid (contF_one _ hE)
                clear hE
                go_wp2_with (go_at_call 56; refine (goesOn_any _ _).mono ?_; rintro e w' ⟨rfl, rfl⟩)
                go_round
                case rel => exact ⟨1, _, _, rfl, rfl, .inr ⟨rfl, rfl⟩, by rw [ByteArray.size_extract]; omega, Lib.hid (by rw [← HX.out]; exact HN.out)⟩
                case measure => simp [ByteArray.size_extract]; omega
          · have i1 : 71 < r.size := by omega
            have g1 := getD_byte r 71 i1
            rcases hst : stB r[71] with _ | _
            · have HK := Lib.hid (cutFrom_miss r.data.toList 74 3 (by omega) (by rw [show 74 - 3 = 71 from rfl, g1]; exact hst) ▸ HJ.out)
              clear g1
              have e : N = 74 := by rw [← HK.out, cutFrom_end _ _ _ (by omega)]
              subst e
              by_cases hE : (r.extract 74 r.size).data.toList = []
              · have hF : (o ++ ⟨#[32]⟩ ++ r.extract 0 74 ++ ⟨#[13, 10]⟩ : ByteArray) = ⟨(foldL s.data.toList).toArray⟩ := str_eq (by have h := HN.out; rw [hE, foldT_nil, List.append_nil] at h; exact h)
                have HE := Lib.hid hF
                have hE2 : (r.extract 74 r.size).toList.isEmpty = true := by rw [ByteArray.toList_eq, hE]; rfl
                clear hF hE
                go_wp2_with (go_at_call 56; refine (goesOn_any _ _).mono ?_; rintro e w' ⟨rfl, rfl⟩)
                go_ret
                exact ⟨by rw [← HE.out]; rfl, rfl⟩
              · have hE2 := not_empty hE
                have hN1 : 1 ≤ 74 := by
                  rcases Nat.eq_zero_or_pos r.size with h | h
                  · exact absurd (by rw [ext_from]; rw [← len_eq] at h; rw [List.eq_nil_of_length_eq_zero h]; simp) hE
                  · exact HB3.out (by intro h0; rw [← len_eq, h0] at h; simp at h)
                have HX := Lib.hid (contF_one _ hE)
                clear hE
                go_wp2_with (go_at_call 56; refine (goesOn_any _ _).mono ?_; rintro e w' ⟨rfl, rfl⟩)
                go_round
                case rel => exact ⟨1, _, _, rfl, rfl, .inr ⟨rfl, rfl⟩, by rw [ByteArray.size_extract]; omega, Lib.hid (by rw [← HX.out]; exact HN.out)⟩
                case measure => simp [ByteArray.size_extract]; omega
            · have e : N = 71 := by rw [← HJ.out, cutFrom_hit r.data.toList 74 3 (by omega) (by rw [show 74 - 3 = 71 from rfl, g1]; exact hst)]
              subst e
              clear g1
              by_cases hE : (r.extract 71 r.size).data.toList = []
              · have hF : (o ++ ⟨#[32]⟩ ++ r.extract 0 71 ++ ⟨#[13, 10]⟩ : ByteArray) = ⟨(foldL s.data.toList).toArray⟩ := str_eq (by have h := HN.out; rw [hE, foldT_nil, List.append_nil] at h; exact h)
                have HE := Lib.hid hF
                have hE2 : (r.extract 71 r.size).toList.isEmpty = true := by rw [ByteArray.toList_eq, hE]; rfl
                clear hF hE
                go_wp2_with (go_at_call 56; refine (goesOn_any _ _).mono ?_; rintro e w' ⟨rfl, rfl⟩)
                go_ret
                exact ⟨by rw [← HE.out]; rfl, rfl⟩
              · have hE2 := not_empty hE
                have hN1 : 1 ≤ 71 := by
                  rcases Nat.eq_zero_or_pos r.size with h | h
                  · exact absurd (by rw [ext_from]; rw [← len_eq] at h; rw [List.eq_nil_of_length_eq_zero h]; simp) hE
                  · exact HB3.out (by intro h0; rw [← len_eq, h0] at h; simp at h)
                have HX := Lib.hid (contF_one _ hE)
                clear hE
                go_wp2_with (go_at_call 56; refine (goesOn_any _ _).mono ?_; rintro e w' ⟨rfl, rfl⟩)
                go_round
                case rel => exact ⟨1, _, _, rfl, rfl, .inr ⟨rfl, rfl⟩, by rw [ByteArray.size_extract]; omega, Lib.hid (by rw [← HX.out]; exact HN.out)⟩
                case measure => simp [ByteArray.size_extract]; omega
end Go.Proofs.YtidgahnamdhflaaDoor
