/- The document's numbers, CronText$1, CronText$2; plain: lists of words grown one by one. -/
import Derived.Test.YtdnbnpknmdcljaaDoorCrnL
import Derived.Test.YtdnbnpknmdcljaaDoorCrnI
namespace Go.Proofs.YtdnbnpknmdcljaaDoor
open Go.RowKit Go.Shelf
/-- A word more behind a comma. -/
def addJ (s x : List UInt8) : List UInt8 := if s = [] then x else s ++ [44] ++ x
theorem join_one (x : List UInt8) (s : List UInt8) : Lib.join [x] s = x := by simp [Lib.join, List.intercalate]
theorem join_cons2 (x y : List UInt8) (l : List (List UInt8)) (s : List UInt8) : Lib.join (x :: y :: l) s = x ++ s ++ Lib.join (y :: l) s := by simp [Lib.join, List.intercalate]
theorem join_snoc (x : List UInt8) (s : List UInt8) : ∀ (l : List (List UInt8)), l ≠ [] → Lib.join (l ++ [x]) s = Lib.join l s ++ s ++ x
  | [], h => absurd rfl h
  | [a], _ => by rw [List.singleton_append, join_cons2, join_one, join_one]
  | a :: b :: l, _ => by
    rw [List.cons_append, List.cons_append, join_cons2, join_cons2, ← List.cons_append, join_snoc x s (b :: l) (by simp)]
    simp
theorem join_ne (s : List UInt8) : ∀ (l : List (List UInt8)), l ≠ [] → (∀ x, x ∈ l → x ≠ []) → Lib.join l s ≠ []
  | [], h, _ => absurd rfl h
  | [a], _, h => by rw [join_one]; exact h a (by simp)
  | a :: b :: l, _, h => by
    rw [join_cons2]
    have := h a (by simp)
    simp [this]
theorem addJ_join (l : List (List UInt8)) (x : List UInt8) (h : ∀ x, x ∈ l → x ≠ []) : addJ (Lib.join l [44]) x = Lib.join (l ++ [x]) [44] := by
  unfold addJ
  by_cases hl : l = []
  · subst hl
    rw [if_pos (by rfl), List.nil_append, join_one]
  · rw [if_neg (join_ne _ l hl h), join_snoc x [44] l hl]
theorem dec_ne (n : Nat) : Lib.decDigits n ≠ [] := by
  unfold Lib.decDigits
  split <;> simp
theorem words_ne (l : List Int) (s : List UInt8) (x : List UInt8) (hx : x ∈ wordsL l s) : x ≠ [] := by
  unfold wordsL at hx
  obtain ⟨n, _, rfl⟩ := List.mem_map.1 hx
  have := dec_ne n.toNat
  unfold numL
  simp [this]
theorem nth_ne (l : List (Int × Int)) (x : List UInt8) (hx : x ∈ nthL l) : x ≠ [] := by
  unfold nthL at hx
  obtain ⟨n, _, rfl⟩ := List.mem_map.1 hx
  simp
theorem nth_snoc (l : List (Int × Int)) (k : Nat) (h : k < l.length) : nthL (l.take (k + 1)) = nthL (l.take k) ++ [numL (l.getD k (0, 0)).2 ++ [35] ++ numL (l.getD k (0, 0)).1] := by
  unfold nthL
  rw [List.take_succ_eq_append_getElem h, List.map_append]
  rw [List.getD, List.getElem?_eq_getElem h]
  rfl
theorem str_eq {l : List UInt8} {s : ByteArray} (h : s.data.toList = l) : (⟨l.toArray⟩ : ByteArray) = s := by subst h; simp
theorem app_eq (a b : ByteArray) : (a ++ b).data.toList = a.data.toList ++ b.data.toList := by rw [ByteArray.data_append, Array.toList_append]
set_option maxHeartbeats 4000000 in
theorem numbers_any (v : Value) (l : List Int) (w : World) (h : IntS w v l) (hl : l.length ≤ 1000) (hr : ∀ k, k < l.length → 0 ≤ l.getD k 0 ∧ l.getD k 0 < 100) :
    Calls Tryd.prog 11 #[v] w fun e w' => e = .returned (.string ⟨(Lib.join (wordsL l []) [44]).toArray⟩) ∧ w' = w := by
  obtain ⟨oa, cap, rfl, -, -⟩ := id h
  obtain ⟨n, hn⟩ : ∃ n, l.length = n := ⟨_, rfl⟩
  rw [hn] at h hl ⊢
  have H := Lib.hid h
  have HN := Lib.hid hn
  have HRG := Lib.hid hr
  clear h hn hr
  go_enter Tryd.func11, Tryd.ntmps11
  go_wp2_with fail
  go_loop [3, 4] (fun s c => ∃ (S : ByteArray) (k : Nat), s = .string S ∧ c = .int .i64 (k : Int) ∧ k ≤ n ∧ Hid (S.data.toList = Lib.join (wordsL (l.take k) []) [44])) (fun _ c => n - (intOf c).toNat)
  case atStart => exact ⟨⟨#[]⟩, 0, rfl, rfl, by omega, Lib.hid rfl⟩
  case round =>
    obtain ⟨S, k, rfl, rfl, hk, HS⟩ := hrel
    by_cases hkn : k < n
    · have hkl : k < l.length := by rw [HN.out]; exact hkn
      obtain ⟨ad, rfl, hc⟩ := H.out.at hkl
      obtain ⟨hx0, hx1⟩ := HRG.out k hkl
      have HX := Lib.hid (words_snoc l [] k hkl)
      obtain ⟨x, hx⟩ : ∃ x, l.getD k 0 = x := ⟨_, rfl⟩
      rw [hx] at hc hx0 hx1 HX
      obtain ⟨M, hM⟩ : ∃ M : ByteArray, (⟨(numL x).toArray⟩ : ByteArray) = M := ⟨_, rfl⟩
      have HMl : Hid (M.data.toList = numL x) := Lib.hid (by rw [← hM])
      have CI : Hid (∀ w0, Calls Tryd.prog 13 #[.int .i64 x] w0 fun e w' => e = .returned (.string M) ∧ w0 = w') := Lib.hid fun w0 => hM ▸ itoa_any x w0 hx0 hx1
      have HML2 : Hid ((numL x).length ≤ 2) := Lib.hid (numL_len x hx1)
      clear hx hM hkl hx0 hx1
      have HSl : Hid ((Lib.join (wordsL (l.take k) []) [44]).length ≤ 3000) := Lib.hid (by
        have h1 := join_wlen (wordsL (l.take k) []) 2 (fun x hx => words_mem (l.take k) [] (fun j hj => by
          have hj' : j < k := by rw [List.length_take] at hj; omega
          have := HRG.out j (by rw [HN.out]; omega)
          rw [List.getD, List.getElem?_take, if_pos hj']
          exact this) x hx)
        rw [words_len, List.length_take, HN.out, Nat.min_eq_left (by omega)] at h1
        omega)
      have hS1 : S.size ≤ 3000 := by rw [Lib.size_eq, HS.out]; exact HSl.out
      have hM1 : M.size ≤ 2 := by rw [Lib.size_eq, HMl.out]; exact HML2.out
      by_cases hk0 : 0 < k
      · have hd : decide ((0 : Int) < (k : Int)) = true := decide_eq_true (by omega)
        have HF : Hid ((S ++ (⟨#[44]⟩ : ByteArray) ++ M).data.toList = Lib.join (wordsL (l.take (k + 1)) []) [44]) := Lib.hid (by
          rw [app_eq, app_eq, HS.out, HX.out, HMl.out, List.append_nil, ← addJ_join _ _ (words_ne _ _)]
          unfold addJ
          rw [if_neg (join_ne _ _ (by intro h0; have := congrArg List.length h0; rw [words_len, List.length_take, HN.out] at this; simp at this; omega) (words_ne _ _))])
        go_wp2_with (go_at_call 13; refine (CI.out _).mono ?_; rintro e w' ⟨rfl, rfl⟩)
        go_round
        case rel => exact ⟨_, k + 1, rfl, by go_num, by omega, HF⟩
        case measure => simp [intOf]; omega
      · have hd : decide ((0 : Int) < (k : Int)) = false := decide_eq_false (by omega)
        have HF : Hid ((S ++ M).data.toList = Lib.join (wordsL (l.take (k + 1)) []) [44]) := Lib.hid (by
          obtain rfl : k = 0 := by omega
          rw [app_eq, HS.out, HX.out, HMl.out, List.append_nil, ← addJ_join _ _ (words_ne _ _)]; simp [addJ, Lib.join, wordsL, List.intercalate])
        go_wp2_with (go_at_call 13; refine (CI.out _).mono ?_; rintro e w' ⟨rfl, rfl⟩)
        go_round
        case rel => exact ⟨_, k + 1, rfl, by go_num, by omega, HF⟩
        case measure => simp [intOf]; omega
    · obtain rfl : k = n := by omega
      have HF : Hid ((⟨(Lib.join (wordsL l []) [44]).toArray⟩ : ByteArray) = S) := Lib.hid (str_eq (by have h := HS.out; rw [List.take_of_length_le (by rw [HN.out]; exact Nat.le_refl _)] at h; exact h))
      go_wp2_with fail
      go_ret
      exact ⟨by rw [HF.out]; rfl, rfl⟩
set_option maxHeartbeats 4000000 in
theorem all_any (v : Value) (l : List Int) (m : Nat) (w : World) (h : IntS w v l) (hl : l.length ≤ 1000) (hm : m ≤ 1000) (hr : ∀ k, k < l.length → 0 ≤ l.getD k 0 ∧ l.getD k 0 < 100) :
    Calls Tryd.prog 10 #[v, .int .i64 (m : Int)] w fun e w' => e = .returned (.string ⟨(wholeL l m).toArray⟩) ∧ w' = w := by
  have CN := Lib.hid (numbers_any v l w h hl hr)
  obtain ⟨oa, cap, rfl, -, -⟩ := h
  obtain ⟨n, hn⟩ : ∃ n, l.length = n := ⟨_, rfl⟩
  rw [hn] at CN ⊢
  obtain ⟨J, hJ⟩ : ∃ J : ByteArray, (⟨(Lib.join (wordsL l []) [44]).toArray⟩ : ByteArray) = J := ⟨_, rfl⟩
  rw [hJ] at CN
  by_cases hnm : n = m
  · have HW : Hid ((⟨(wholeL l m).toArray⟩ : ByteArray) = ⟨#[42]⟩) := Lib.hid (by unfold wholeL; rw [if_pos (by rw [hn]; exact hnm)])
    subst hnm
    clear hn hJ hr
    go_enter Tryd.func10, Tryd.ntmps10
    go_wp2_with fail
    go_ret
    exact ⟨by rw [HW.out]; rfl, rfl⟩
  · have HW : Hid ((⟨(wholeL l m).toArray⟩ : ByteArray) = J) := Lib.hid (by unfold wholeL; rw [if_neg (by rw [hn]; exact hnm)]; exact hJ)
    have q1 : ((n : Int) == (m : Int)) = false := by rw [beq_eq_false_iff_ne]; omega
    clear hn hJ hr
    go_enter Tryd.func10, Tryd.ntmps10
    go_wp2_with (go_at_call 11; refine CN.out.mono ?_; rintro e w1 ⟨rfl, rfl⟩)
    go_ret
    exact ⟨by rw [HW.out]; rfl, rfl⟩
theorem setCell_again (w : World) (p : Addr) (u v : Value) : (w.setCell p u).setCell p v = w.setCell p v := by
  unfold World.setCell
  congr 1
  ext i
  · simp
  · simp only [Array.getElem_modify]
    by_cases hi : p.block = i
    · simp only [hi, if_true]
      generalize w.heap[i]'_ = o
      cases o with
      | cells c e f => by_cases h : p.spot.isSome = true <;> simp [h]
      | _ => rfl
    · simp only [hi, if_false]
/-- CronText$2: a word more in a text's box. -/
theorem add_any (D : Nat) (s x : ByteArray) (w : World) (hc : w.cell? ⟨D, 0, none⟩ = some (.string s)) (hf : w.frozen? ⟨D, 0, none⟩ = false) (hs : s.size ≤ 1000000) (hx : x.size ≤ 1000000) :
    Calls Tryd.prog 12 #[.pointer (some ⟨D, 0, none⟩), .string x] w fun e w' => e = .returned (.tuple #[]) ∧ w' = w.setCell ⟨D, 0, none⟩ (.string ⟨(addJ s.data.toList x.data.toList).toArray⟩) := by
  by_cases h0 : s.data.toList = []
  · obtain rfl : s = ⟨#[]⟩ := by rw [← str_eq (s := s) rfl, h0]
    have HE : Hid ((⟨(addJ (⟨#[]⟩ : ByteArray).data.toList x.data.toList).toArray⟩ : ByteArray) = ⟨#[]⟩ ++ x) := Lib.hid (str_eq (by rw [app_eq]; simp [addJ]))
    clear h0
    go_enter Tryd.func12, Tryd.ntmps12
    go_wp2_with fail
    go_end0
    exact ⟨rfl, by rw [HE.out]⟩
  · have HE : Hid ((⟨(addJ s.data.toList x.data.toList).toArray⟩ : ByteArray) = s ++ (⟨#[44]⟩ : ByteArray) ++ x) := Lib.hid (str_eq (by rw [app_eq, app_eq]; simp [addJ, h0]))
    have h1 : (!s.toList.isEmpty) = true := by rw [ByteArray.toList_eq]; simpa using h0
    have h2 : s.toList.isEmpty = false := by rw [ByteArray.toList_eq]; simpa using h0
    clear h0
    go_enter Tryd.func12, Tryd.ntmps12
    go_wp2_with fail
    go_end0
    exact ⟨rfl, by rw [HE.out]; exact setCell_again _ _ _ _⟩
end Go.Proofs.YtdnbnpknmdcljaaDoor
