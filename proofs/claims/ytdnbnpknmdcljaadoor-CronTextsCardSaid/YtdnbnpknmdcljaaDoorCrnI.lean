/- cron.whole. -/
import Derived.Test.YtdnbnpknmdcljaaDoorCrnH
namespace Go.Proofs.YtdnbnpknmdcljaaDoor
open Go.RowKit Go.Shelf
theorem join_wlen (xs : List (List UInt8)) (m : Nat) (h : ∀ x, x ∈ xs → x.length ≤ m) : (Lib.join xs [44]).length ≤ xs.length * (m + 1) := by
  unfold Lib.join
  induction xs with
  | nil => simp [List.intercalate]
  | cons a xs ih =>
    have ha := h a (by simp)
    have ih := ih fun x hx => h x (by simp [hx])
    cases xs with
    | nil => simp [List.intercalate]; omega
    | cons b xs =>
      simp [List.intercalate] at ih ⊢
      rw [Nat.add_mul, Nat.add_mul] at *
      omega
theorem words_mem (l : List Int) (s : List UInt8) (hr : ∀ k, k < l.length → 0 ≤ l.getD k 0 ∧ l.getD k 0 < 100) (x : List UInt8) (hx : x ∈ wordsL l s) : x.length ≤ 2 + s.length := by
  unfold wordsL at hx
  obtain ⟨n, hn, rfl⟩ := List.mem_map.1 hx
  obtain ⟨k, hk, rfl⟩ := List.mem_iff_getElem.1 hn
  have h1 := (hr k hk).2
  rw [List.getD, List.getElem?_eq_getElem hk] at h1
  have h2 := numL_len l[k] h1
  rw [List.length_append]
  omega
set_option maxHeartbeats 4000000 in
theorem whole_any (v : Value) (l : List Int) (m : Nat) (w : World) (h : IntS w v l) (hl : l.length ≤ 1000) (hm : m ≤ 1000) (hr : ∀ k, k < l.length → 0 ≤ l.getD k 0 ∧ l.getD k 0 < 100) :
    Calls Tryd.prog 19 #[v, .int .i64 (m : Int)] w fun e w' => e = .returned (.string ⟨(wholeL l m).toArray⟩) ∧ Below w.heap.size w w' := by
  have CT : Hid (Calls Tryd.prog 17 #[v, .string ⟨#[]⟩] w fun e w' => ∃ v', e = .returned v' ∧ StrL w' w.heap.size v' (wordsL l []) ∧ Below w.heap.size w w') := Lib.hid (texts_any v l ⟨#[]⟩ w h hl hr (by decide))
  have CJ : Hid (∀ (v' : Value) (b : Nat) (w0 : World), StrL w0 b v' (wordsL l []) → Calls Tryd.prog 18 #[v', .string ⟨#[44]⟩] w0 fun e w' => e = .returned (.string ⟨(Lib.join (wordsL l []) [44]).toArray⟩) ∧ Below w0.heap.size w0 w') := Lib.hid fun v' b w0 hv => join_call (wordsL l []) ⟨#[44]⟩ v' b w0 hv (by rw [words_len]; exact hl) (by
    have h1 := join_wlen (wordsL l []) 2 (fun x hx => words_mem l [] hr x hx)
    rw [words_len] at h1
    show (Lib.join (wordsL l []) [44]).length ≤ _
    omega)
  obtain ⟨oa, cap, rfl, -, -⟩ := h
  obtain ⟨n, hn⟩ : ∃ n, l.length = n := ⟨_, rfl⟩
  rw [hn] at CT ⊢
  obtain ⟨J, hJ⟩ : ∃ J : ByteArray, (⟨(Lib.join (wordsL l []) [44]).toArray⟩ : ByteArray) = J := ⟨_, rfl⟩
  rw [hJ] at CJ
  by_cases hnm : n = m
  · have HW : Hid ((⟨(wholeL l m).toArray⟩ : ByteArray) = ⟨#[42]⟩) := Lib.hid (by unfold wholeL; rw [if_pos (by rw [hn]; exact hnm)])
    subst hnm
    clear hn hJ hr
    go_enter Tryd.func19, Tryd.ntmps19
    go_wp2_with fail
    go_ret
    exact ⟨by rw [HW.out]; rfl, Below.refl _ _⟩
  · have HW : Hid ((⟨(wholeL l m).toArray⟩ : ByteArray) = J) := Lib.hid (by unfold wholeL; rw [if_neg (by rw [hn]; exact hnm)]; exact hJ)
    have q1 : ((n : Int) == (m : Int)) = false := by rw [beq_eq_false_iff_ne]; omega
    clear hn hJ hr
    go_enter Tryd.func19, Tryd.ntmps19
    go_wp2_with (first
      | (go_at_call 17; refine CT.out.mono ?_; rintro e w1 ⟨v1, rfl, h1, hb1⟩; have H1 := Lib.hid h1; have HB1 := Lib.hid hb1; clear h1 hb1)
      | (go_at_call 18; refine (CJ.out _ _ _ H1.out).mono ?_; rintro e w2 ⟨rfl, hb2⟩; have HB2 := Lib.hid (thenB HB1.out hb2); clear hb2))
    go_ret
    exact ⟨by rw [HW.out]; rfl, HB2.out⟩
end Go.Proofs.YtdnbnpknmdcljaaDoor
