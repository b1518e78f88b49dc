/- Plain: lists of texts are recovered; printed parts are read as they were; no line is too long (no program in sight). -/
import Derived.Test.YtidgahnamdhflaaDoorPsxA
import Derived.Test.YtidgahnamdhflaaDoorPsxH
import Derived.Test.YtidgahnamdhflaaDoorPsxG
import Derived.Test.YtidgahnamdhflaaDoorLstA
namespace Go.Proofs.YtidgahnamdhflaaDoor.Psx
open Go Go.Proofs.YtidgahnamdhflaaDoor.Fld Go.Proofs.YtidgahnamdhflaaDoor.Prt
/-! ### Lists -/
theorem escL_cons (b : UInt8) (x : List UInt8) : escL (b :: x) = escB b ++ escL x := rfl
theorem items_esc (x : List UInt8) : ∀ (t : List UInt8) (i : Nat) (acc : List (List UInt8)) (cur : List UInt8), itemsF (escL x ++ t) i acc cur = itemsF t (i + (escL x).length) acc (cur ++ x) := by
  induction x with
  | nil => intro t i acc cur; simp [escL]
  | cons b x ih =>
    intro t i acc cur
    rw [escL_cons, List.append_assoc, List.length_append]
    by_cases h1 : b = 92 ∨ b = 44 ∨ b = 59
    · have e : escB b = [92, b] := by unfold escB; rw [if_pos h1]
      have h0 : ¬(b = 110 ∨ b = 78) := by rcases h1 with rfl | rfl | rfl <;> decide
      rw [e]
      show itemsF (92 :: b :: (escL x ++ t)) i acc cur = _
      rw [it_esc b _ i acc cur h0 h1, ih, List.append_assoc]
      congr 1
      simp; omega
    · by_cases h2 : b = 10
      · have e : escB b = [92, 110] := by unfold escB; rw [if_neg h1, if_pos h2]
        rw [e]
        show itemsF (92 :: 110 :: (escL x ++ t)) i acc cur = _
        rw [it_nl 110 _ i acc cur (.inl rfl), ih, List.append_assoc, h2]
        congr 1
        simp; omega
      · have e : escB b = [b] := by unfold escB; rw [if_neg h1, if_neg h2]
        rw [e]
        show itemsF (b :: (escL x ++ t)) i acc cur = _
        rw [it_plain b _ i acc cur (fun h => h1 (.inr (.inr h))) (fun h => h1 (.inr (.inl h))) (fun h => h1 (.inl h)), ih, List.append_assoc]
        congr 1
        simp; omega
theorem items_join : ∀ (r : List (List UInt8)) (x : List UInt8) (i : Nat) (acc : List (List UInt8)), itemsF (Lib.join ((x :: r).map escL) [44]) i acc [] = .ok (acc ++ x :: r) := by
  intro r
  induction r with
  | nil =>
    intro x i acc
    have h := items_esc x [] i acc []
    rw [List.append_nil] at h
    rw [List.map_cons, List.map_nil, Lib.join_one, h, it_nil]
    rfl
  | cons y r ih =>
    intro x i acc
    have e : Lib.join ((x :: y :: r).map escL) [44] = escL x ++ (44 :: Lib.join ((y :: r).map escL) [44]) := by
      simp [Lib.join, List.intercalate]
    rw [e, items_esc, it_comma, ih]
    simp
/-! ### Lines that are not too long -/
/-- With n bytes behind the last line's end: no line has more than 76 ahead of its end. -/
def LW : Nat → List UInt8 → Prop
  | _, [] => True
  | n, b :: t => if b = 10 then n ≤ 76 ∧ LW 0 t else LW (n + 1) t
theorem LW_end {n : Nat} {t : List UInt8} (h : LW n (10 :: t)) : n ≤ 76 ∧ LW 0 t := by unfold LW at h; rwa [if_pos rfl] at h
theorem LW_go {n : Nat} {b : UInt8} {t : List UInt8} (hb : b ≠ 10) (h : LW n (b :: t)) : LW (n + 1) t := by unfold LW at h; rwa [if_neg hb] at h
theorem LW_app {p : List UInt8} (h : 10 ∉ p) : ∀ (n : Nat) (t : List UInt8), LW n (p ++ t) ↔ LW (n + p.length) t := by
  induction p with
  | nil => intro n t; simp
  | cons b p ih =>
    intro n t
    simp at h
    have h1 : ¬ b = 10 := fun e => h.1 e.symm
    rw [List.cons_append]
    conv => lhs; unfold LW
    rw [if_neg h1, ih h.2, List.length_cons, show n + 1 + p.length = n + (p.length + 1) by omega]
theorem LW_line {p : List UInt8} (h : 10 ∉ p) {n : Nat} {t : List UInt8} (hn : n + p.length ≤ 76) (ht : LW 0 t) : LW n (p ++ 10 :: t) := by
  rw [LW_app h]
  unfold LW
  rw [if_pos rfl]
  exact ⟨hn, ht⟩
theorem LW_foldT (l : List UInt8) (h : 10 ∉ l) (rest : List UInt8) (hr : LW 0 rest) : LW 0 (foldT l ++ rest) := by
  by_cases h0 : l = []
  · subst h0; rw [foldT_nil]; exact hr
  · have h1 := cutN_bd l 74 (by omega)
    have h2 := h1.2.2 h0
    have h3 := List.length_pos_iff.2 h0
    have e : foldT l ++ rest = (32 :: (l.take (cutN l 74) ++ [13])) ++ 10 :: (foldT (l.drop (cutN l 74)) ++ rest) := by rw [foldT_cons l h0]; simp
    rw [e]
    refine LW_line ?_ ?_ (LW_foldT _ (fun e => h (List.mem_of_mem_drop e)) rest hr)
    · simp only [List.mem_cons, List.mem_append, List.not_mem_nil, or_false]
      rintro (e | e | e)
      · exact absurd e (by decide)
      · exact h (List.mem_of_mem_take e)
      · exact absurd e (by decide)
    · simp; omega
  termination_by l.length
  decreasing_by simp; omega
theorem LW_fold {l : List UInt8} (h : 10 ∉ l) {rest : List UInt8} (hr : LW 0 rest) : LW 0 (foldL l ++ rest) := by
  have h1 := cutN_bd l 75 (by omega)
  have e : foldL l ++ rest = (l.take (cutN l 75) ++ [13]) ++ 10 :: (foldT (l.drop (cutN l 75)) ++ rest) := by unfold foldL; simp
  rw [e]
  refine LW_line ?_ ?_ (LW_foldT _ (fun e => h (List.mem_of_mem_drop e)) rest hr)
  · simp only [List.mem_cons, List.mem_append, List.not_mem_nil, or_false]
    rintro (e | e)
    · exact h (List.mem_of_mem_take e)
    · exact absurd e (by decide)
  · simp; omega
/-! ### Folded lines are unfolded -/
theorem trimR_cr2 (p : List UInt8) : trimR (p ++ [13]) = p := by unfold trimR; simp
theorem stepU_on {acc : List (List UInt8)} {x p : List UInt8} : stepU (acc ++ [x]) (32 :: (p ++ [13])) = acc ++ [x ++ p] := by
  unfold stepU
  have e : trimR (32 :: (p ++ [13])) = 32 :: p := trimR_cr2 (32 :: p)
  rw [e]
  have h : (goes (32 :: p) && !(acc ++ [x]).isEmpty) = true := by simp [goes]
  rw [if_pos h]
  simp
theorem stepU_new {acc : List (List UInt8)} {p : List UInt8} (h : goes p = false) : stepU acc (p ++ [13]) = acc ++ [p] := by
  unfold stepU
  rw [trimR_cr2, h]
  rfl
theorem unf_foldT (l : List UInt8) (h : 10 ∉ l) (rest : List UInt8) (acc : List (List UInt8)) (x : List UInt8) : (linesOf (foldT l ++ rest)).foldl stepU (acc ++ [x]) = (linesOf rest).foldl stepU (acc ++ [x ++ l]) := by
  by_cases h0 : l = []
  · subst h0; rw [foldT_nil]; simp
  · have h1 := cutN_bd l 74 (by omega)
    have h2 := h1.2.2 h0
    have h3 := List.length_pos_iff.2 h0
    have e : foldT l ++ rest = (32 :: (l.take (cutN l 74) ++ [13])) ++ 10 :: (foldT (l.drop (cutN l 74)) ++ rest) := by rw [foldT_cons l h0]; simp
    have hn : 10 ∉ (32 :: (l.take (cutN l 74) ++ [13])) := by
      simp only [List.mem_cons, List.mem_append, List.not_mem_nil, or_false]
      rintro (e | e | e)
      · exact absurd e (by decide)
      · exact h (List.mem_of_mem_take e)
      · exact absurd e (by decide)
    rw [e, linesOf_cut _ _ hn, List.foldl_cons, stepU_on, unf_foldT _ (fun e => h (List.mem_of_mem_drop e)) rest acc, List.append_assoc, List.take_append_drop]
  termination_by l.length
  decreasing_by simp; omega
theorem unf_fold {l : List UInt8} (h : 10 ∉ l) (hg : goes l = false) (hl : l ≠ []) (rest : List UInt8) (acc : List (List UInt8)) : (linesOf (foldL l ++ rest)).foldl stepU acc = (linesOf rest).foldl stepU (acc ++ [l]) := by
  have h1 := cutN_bd l 75 (by omega)
  have h2 := h1.2.2 hl
  have e : foldL l ++ rest = (l.take (cutN l 75) ++ [13]) ++ 10 :: (foldT (l.drop (cutN l 75)) ++ rest) := by unfold foldL; simp
  have hn : 10 ∉ (l.take (cutN l 75) ++ [13]) := by
    simp only [List.mem_cons, List.mem_append, List.not_mem_nil, or_false]
    rintro (e | e)
    · exact h (List.mem_of_mem_take e)
    · exact absurd e (by decide)
  have hg2 : goes (l.take (cutN l 75)) = false := by
    obtain ⟨k, hk⟩ : ∃ k, cutN l 75 = k + 1 := ⟨cutN l 75 - 1, by omega⟩
    cases l with
    | nil => exact absurd rfl hl
    | cons b t => rw [hk, List.take_succ_cons]; exact hg
  rw [e, linesOf_cut _ _ hn, List.foldl_cons, stepU_new hg2, unf_foldT _ (fun e => h (List.mem_of_mem_drop e)) rest acc, List.take_append_drop]
/-! ### What is written of a line is read -/
theorem fstOf_app {cs p : List UInt8} (h : ∀ b, b ∈ p → cs.contains b = false) {c : UInt8} (hc : cs.contains c = true) (t : List UInt8) : fstOf (p ++ c :: t) cs = some p.length := by
  induction p with
  | nil => rw [List.nil_append, fstOf_cons, hc]; rfl
  | cons b p ih =>
    rw [List.cons_append, fstOf_cons, h b List.mem_cons_self, ih (fun b hb => h b (List.mem_cons_of_mem _ hb))]
    rfl
theorem okC_facts {c : UInt8} (h : okC c = true) : ctl c = false ∧ greatC c = c ∧ c ≠ 61 ∧ c ≠ 59 ∧ c ≠ 58 ∧ c ≠ 32 ∧ c ≠ 9 := by
  have hh : ∀ n : Fin 256, okC (UInt8.ofNat n.val) = true → ctl (UInt8.ofNat n.val) = false ∧ greatC (UInt8.ofNat n.val) = UInt8.ofNat n.val ∧ UInt8.ofNat n.val ≠ 61 ∧ UInt8.ofNat n.val ≠ 59 ∧ UInt8.ofNat n.val ≠ 58 ∧ UInt8.ofNat n.val ≠ 32 ∧ UInt8.ofNat n.val ≠ 9 := by decide +kernel
  have h1 := hh ⟨c.toNat, c.toNat_lt⟩
  simp only [UInt8.ofNat_toNat] at h1
  exact h1 h
theorem name_parts {l : List UInt8} (h : nameB l = true) : l ≠ [] ∧ ∀ c, c ∈ l → okC c = true := by
  unfold nameB at h
  simp only [Bool.and_eq_true, decide_eq_true_eq, List.all_eq_true] at h
  exact ⟨fun e => by rw [e] at h; simp at h, h.2⟩
theorem great_name {l : List UInt8} (h : nameB l = true) : greatL l = l := by
  have h2 := (name_parts h).2
  unfold greatL
  exact (List.map_congr_left fun c hc => (okC_facts (h2 c hc)).2.1).trans (List.map_id _)
theorem firstE_all {α : Type} {f : α → Int} {l : List α} (h : firstE f l = 0) : ∀ x, x ∈ l → f x = 0 := by
  induction l with
  | nil => intro x hx; cases hx
  | cons a l ih =>
    by_cases ha : f a = 0
    · rw [firstE_go ha] at h
      intro x hx
      rcases List.mem_cons.1 hx with rfl | hx
      · exact ha
      · exact ih h x hx
    · rw [firstE_hit ha] at h; exact absurd h ha
/-- What a good value, param, line is. -/
def VOk (v : ByteArray) : Prop := cleanQ v.data.toList = true
def XOk (x : Prm) : Prop := nameB x.name.data.toList = true ∧ x.vals ≠ [] ∧ ∀ v, v ∈ x.vals → VOk v
def LOk (l : Ln) : Prop := nameB l.name.data.toList = true ∧ (∀ x, x ∈ l.prms → XOk x) ∧ cleanB l.value.data.toList = true
theorem prmE_ok {x : Prm} (h : prmE x = 0) : XOk x := by
  unfold prmE at h
  split at h
  · exact absurd h (by decide)
  · rename_i h1
    split at h
    · exact absurd h (by decide)
    · rename_i h2
      refine ⟨by simpa using h1, fun e => h2 (by rw [e]; rfl), fun v hv => ?_⟩
      have h3 := firstE_all h v hv
      unfold valE at h3
      unfold VOk
      split at h3
      · assumption
      · exact absurd h3 (by decide)
theorem lineE_ok {l : Ln} (h : lineE l = 0) : LOk l ∧ l.name.data.toList ≠ [66, 69, 71, 73, 78] ∧ l.name.data.toList ≠ [69, 78, 68] := by
  unfold lineE at h
  split at h
  · rename_i h1; exact absurd h h1
  · rename_i h1
    split at h
    · rename_i h2; exact absurd h h2
    · rename_i h2
      have h1 : Prt.headE l = 0 := by simpa using h1
      have h2 : firstE prmE l.prms = 0 := by simpa using h2
      unfold Prt.headE at h1
      split at h1
      · exact absurd h1 (by decide)
      · rename_i h3
        have a1 : nameB l.name.data.toList = true := by
          cases hb : nameB l.name.data.toList with
          | true => rfl
          | false => exact absurd (.inl hb) h3
        refine ⟨⟨a1, fun x hx => prmE_ok (firstE_all h2 x hx), ?_⟩, fun e => h3 (.inr (.inl e)), fun e => h3 (.inr (.inr e))⟩
        unfold tailE at h
        split at h
        · assumption
        · exact absurd h (by decide)
/-- Values behind the first. -/
def valsT : List ByteArray → List UInt8
  | [] => []
  | v :: r => 44 :: (quote v.data.toList ++ valsT r)
def valsQ : List ByteArray → List UInt8
  | [] => []
  | v :: r => quote v.data.toList ++ valsT r
theorem valsT_snoc (r : List ByteArray) (v : ByteArray) : valsT (r ++ [v]) = valsT r ++ 44 :: quote v.data.toList := by
  induction r with
  | nil => simp [valsT]
  | cons a r ih => rw [List.cons_append, valsT, ih, valsT]; simp
theorem valsQ_snoc (r : List ByteArray) (v : ByteArray) : valsQ (r ++ [v]) = valsQ r ++ (if r = [] then [] else [44]) ++ quote v.data.toList := by
  cases r with
  | nil => simp [valsQ, valsT]
  | cons a r => rw [List.cons_append, valsQ, valsT_snoc, valsQ]; simp
theorem valsL_take (vs : List ByteArray) : ∀ k, k ≤ vs.length → valsL vs k = valsQ (vs.take k) := by
  intro k
  induction k with
  | zero => intro _; simp [valsL, valsQ]
  | succ k ih =>
    intro h
    have hk : k < vs.length := by omega
    have e0 : valsL vs (k + 1) = valsL vs k ++ (if k = 0 then [] else [44]) ++ quote (vs.getD k ⟨#[]⟩).data.toList := rfl
    have e : vs.getD k ⟨#[]⟩ = vs[k] := by simp [List.getD, hk]
    have e2 : (vs.take k = []) ↔ (k = 0) := by
      rw [List.take_eq_nil_iff]
      exact ⟨fun h => h.elim id (fun h => by rw [h] at hk; exact absurd hk (Nat.not_lt_zero k)), .inl⟩
    rw [e0, List.take_succ_eq_append_getElem hk, valsQ_snoc, ← ih (by omega), e]
    by_cases h0 : k = 0
    · rw [if_pos h0, if_pos (e2.2 h0)]
    · rw [if_neg h0, if_neg (fun h => h0 (e2.1 h))]
theorem valsL_all (vs : List ByteArray) : valsL vs vs.length = valsQ vs := by
  rw [valsL_take vs _ (Nat.le_refl _), List.take_length]
theorem prmsL_take (xs : List Prm) : ∀ k, k ≤ xs.length → prmsL xs k = ((xs.take k).map prmL).flatten := by
  intro k
  induction k with
  | zero => intro _; simp [prmsL]
  | succ k ih =>
    intro h
    have hk : k < xs.length := by omega
    have e0 : prmsL xs (k + 1) = prmsL xs k ++ prmL (xs.getD k ⟨⟨#[]⟩, []⟩) := rfl
    have e : xs.getD k ⟨⟨#[]⟩, []⟩ = xs[k] := by simp [List.getD, hk]
    rw [e0, ih (by omega), e, List.take_succ_eq_append_getElem hk, List.map_append, List.flatten_append]
    simp only [List.map_cons, List.map_nil, List.flatten_cons, List.flatten_nil, List.append_nil]
theorem prmsL_all (xs : List Prm) : prmsL xs xs.length = (xs.map prmL).flatten := by
  rw [prmsL_take xs _ (Nat.le_refl _), List.take_length]
theorem cleanQ_mem {v : List UInt8} (h : cleanQ v = true) : ∀ c, c ∈ v → ctl c = false ∧ c ≠ 34 := by
  unfold cleanQ at h
  intro c hc
  have := List.all_eq_true.1 h c hc
  simp at this
  exact this
theorem special_not {v : List UInt8} (h : ¬ special v = true) : ∀ c, c ∈ v → ([44, 59, 58] : List UInt8).contains c = false := by
  unfold special at h
  rw [containsAny_any] at h
  intro c hc
  cases hb : ([44, 59, 58] : List UInt8).contains c with
  | false => rfl
  | true => exact absurd (List.any_eq_true.2 ⟨c, hc, hb⟩) h
/-- A value that was written is read. -/
theorem valP_text {v : List UInt8} (hv : cleanQ v = true) {c : UInt8} (hc : ([44, 59, 58] : List UInt8).contains c = true) (t : List UInt8) : valP (quote v ++ c :: t) = ⟨0, v, c :: t⟩ := by
  have hm := cleanQ_mem hv
  have hc34 : c ≠ 34 := by
    intro e; rw [e] at hc; exact absurd hc (by decide)
  unfold quote
  by_cases hs : special v = true
  · rw [if_pos hs]
    have hf : fstOf (34 :: (v ++ [34]) ++ c :: t).tail [34] = some v.length := by
      have e : (34 :: (v ++ [34]) ++ c :: t).tail = v ++ 34 :: (c :: t) := by simp
      rw [e]
      refine fstOf_app (fun b hb => ?_) (by decide) _
      have := (hm b hb).2
      simpa using this
    have e1 : (34 :: (v ++ [34]) ++ c :: t).tail.take v.length = v := by simp
    have e2 : (34 :: (v ++ [34]) ++ c :: t).tail.drop (v.length + 1) = c :: t := by
      have e : (34 :: (v ++ [34]) ++ c :: t).tail = (v ++ [34]) ++ (c :: t) := by simp
      rw [e]
      exact List.drop_left' (by simp)
    unfold valP
    rw [if_pos (by simp), hf]
    simp only
    rw [e1, e2, if_neg (by simp [hv])]
  · rw [if_neg hs]
    have hns := special_not hs
    have hf : fstOf (v ++ c :: t) [44, 59, 58] = some v.length := fstOf_app hns hc t
    have hh : (v ++ c :: t).head? ≠ some 34 := by
      cases v with
      | nil => simpa using hc34
      | cons a v => simpa using (hm a List.mem_cons_self).2
    unfold valP
    rw [if_neg hh, hf]
    simp only
    rw [List.take_left, List.drop_left, if_neg (by simp [hv])]
theorem tail_head (r : List ByteArray) {rest : List UInt8} (hr : rest.head? = some 59 ∨ rest.head? = some 58) : ∃ c t, valsT r ++ rest = c :: t ∧ ([44, 59, 58] : List UInt8).contains c = true ∧ (c = 44 → r ≠ []) ∧ (c ≠ 44 → r = [] ∧ (c = 59 ∨ c = 58)) := by
  cases r with
  | nil =>
    cases rest with
    | nil => rcases hr with h | h <;> cases h
    | cons c t =>
      simp only [List.head?_cons, Option.some.injEq] at hr
      refine ⟨c, t, rfl, ?_, ?_, fun _ => ⟨rfl, hr⟩⟩
      · rcases hr with rfl | rfl <;> rfl
      · rintro rfl; rcases hr with h | h <;> exact absurd h (by decide)
  | cons v r => exact ⟨44, _, rfl, rfl, fun _ h => (List.cons_ne_nil _ _ h).elim, fun h => absurd rfl h⟩
theorem valsP_text {rest : List UInt8} (hr : rest.head? = some 59 ∨ rest.head? = some 58) : ∀ (r : List ByteArray) (v : ByteArray) (acc : List (List UInt8)) (g : Nat) (c0 : UInt8), VOk v → (∀ x, x ∈ r → VOk x) → r.length + 1 ≤ g → valsP g acc (c0 :: (quote v.data.toList ++ (valsT r ++ rest))) = (0, acc ++ (v.data.toList :: r.map (·.data.toList)), rest) := by
  intro r
  induction r with
  | nil =>
    intro v acc g c0 hv _ hg
    obtain ⟨g, rfl⟩ : ∃ k, g = k + 1 := ⟨g - 1, by simp at hg; omega⟩
    obtain ⟨c, t, e, hc, h1, h2⟩ := tail_head [] hr
    have hrest : rest = c :: t := by simpa [valsT] using e
    have hc2 : c ≠ 44 := fun h => h1 h rfl
    rw [e]
    conv => lhs; unfold valsP
    simp only [List.tail_cons, valP_text hv hc]
    rw [if_neg (by simp), if_neg (by simpa using hc2), if_pos (by simpa using (h2 hc2).2), hrest]
    rfl
  | cons a r ih =>
    intro v acc g c0 hv hall hg
    obtain ⟨g, rfl⟩ : ∃ k, g = k + 1 := ⟨g - 1, by simp at hg; omega⟩
    have e : valsT (a :: r) ++ rest = 44 :: (quote a.data.toList ++ (valsT r ++ rest)) := by rw [valsT]; simp
    rw [e]
    conv => lhs; unfold valsP
    simp only [List.tail_cons, valP_text hv (show ([44, 59, 58] : List UInt8).contains 44 = true from rfl)]
    rw [if_neg (by simp), if_pos (by simp), ih a _ g 44 (hall a List.mem_cons_self) (fun x hx => hall x (List.mem_cons_of_mem _ hx)) (by simp at hg; omega)]
    simp
theorem quote_pos (r : List ByteArray) : r.length ≤ (valsT r).length := by
  induction r with
  | nil => exact Nat.zero_le _
  | cons a r ih => simp only [valsT, List.length_cons, List.length_append]; omega
theorem prmP_text {x : Prm} (h : XOk x) {rest : List UInt8} (hr : rest.head? = some 59 ∨ rest.head? = some 58) : prmP (x.name.data.toList ++ (61 :: valsL x.vals x.vals.length) ++ rest) = (0, x, rest) := by
  obtain ⟨h1, h2, h3⟩ := h
  obtain ⟨hn, hk⟩ := name_parts h1
  rw [valsL_all]
  obtain ⟨v, r, hv⟩ := List.exists_cons_of_ne_nil h2
  have e : x.name.data.toList ++ (61 :: valsQ x.vals) ++ rest = x.name.data.toList ++ 61 :: (quote v.data.toList ++ (valsT r ++ rest)) := by rw [hv, valsQ]; simp
  rw [e]
  have hf : fstOf (x.name.data.toList ++ 61 :: (quote v.data.toList ++ (valsT r ++ rest))) [61] = some x.name.data.toList.length := fstOf_app (fun b hb => by
    have := (okC_facts (hk b hb)).2.2.1
    simpa using this) (by decide) _
  unfold prmP
  rw [hf]
  simp only
  rw [List.take_left, List.drop_left, great_name h1, if_neg (by rw [h1]; decide)]
  have hall := valsP_text hr r v [] ((x.name.data.toList ++ 61 :: (quote v.data.toList ++ (valsT r ++ rest))).length + 1) 61 (h3 v (by rw [hv]; exact List.mem_cons_self)) (fun y hy => h3 y (by rw [hv]; exact List.mem_cons_of_mem _ hy)) (by
    have := quote_pos r
    simp only [List.length_append, List.length_cons]
    omega)
  rw [hall, if_neg (by simp)]
  simp only [List.nil_append]
  have e2 : (v.data.toList :: r.map (·.data.toList)).map bs = x.vals := by
    rw [hv]
    simp only [List.map_cons, List.map_map, bs_of, List.cons.injEq, true_and]
    exact (List.map_congr_left fun y _ => bs_of y).trans (List.map_id _)
  rw [e2, bs_of]
theorem prms_head (xs : List Prm) (val : List UInt8) : ((xs.map prmL).flatten ++ 58 :: val).head? = some 59 ∨ ((xs.map prmL).flatten ++ 58 :: val).head? = some 58 := by
  cases xs with
  | nil => exact .inr rfl
  | cons x xs => left; rw [List.map_cons, List.flatten_cons]; rfl
theorem prmsP_text (val : List UInt8) : ∀ (xs acc : List Prm) (g : Nat), (∀ x, x ∈ xs → XOk x) → xs.length + 1 ≤ g → prmsP g acc ((xs.map prmL).flatten ++ 58 :: val) = (0, acc ++ xs, 58 :: val) := by
  intro xs
  induction xs with
  | nil =>
    intro acc g _ hg
    obtain ⟨g, rfl⟩ : ∃ k, g = k + 1 := ⟨g - 1, by simp at hg; omega⟩
    rw [prmsP_end (by simp)]
    simp
  | cons x xs ih =>
    intro acc g hall hg
    obtain ⟨g, rfl⟩ : ∃ k, g = k + 1 := ⟨g - 1, by simp at hg; omega⟩
    have e : ((x :: xs).map prmL).flatten ++ 58 :: val = 59 :: (x.name.data.toList ++ (61 :: valsL x.vals x.vals.length) ++ ((xs.map prmL).flatten ++ 58 :: val)) := by
      rw [List.map_cons, List.flatten_cons, prmL]; simp
    have hp := prmP_text (hall x List.mem_cons_self) (prms_head xs val)
    rw [e, prmsP_go rfl (by rw [List.tail_cons, hp]), List.tail_cons, hp, ih _ g (fun y hy => hall y (List.mem_cons_of_mem _ hy)) (by simp at hg; omega)]
    simp
theorem prms_len (xs : List Prm) : xs.length ≤ ((xs.map prmL).flatten).length := by
  induction xs with
  | nil => exact Nat.zero_le _
  | cons x xs ih =>
    rw [List.map_cons, List.flatten_cons, List.length_append, List.length_cons]
    have : 1 ≤ (prmL x).length := by unfold prmL; simp
    omega
/-- A line that was written is read. -/
theorem lnP_text {l : Ln} (h : LOk l) : lnP (lineL l) = (0, l) := by
  obtain ⟨h1, h2, h3⟩ := h
  obtain ⟨hn, hk⟩ := name_parts h1
  have e : lineL l = l.name.data.toList ++ ((l.prms.map prmL).flatten ++ 58 :: l.value.data.toList) := by unfold lineL; rw [prmsL_all]; simp
  obtain ⟨c, t, hct, hc⟩ : ∃ c t, (l.prms.map prmL).flatten ++ 58 :: l.value.data.toList = c :: t ∧ ([59, 58] : List UInt8).contains c = true := by
    rcases prms_head l.prms l.value.data.toList with g | g
    · cases hq : (l.prms.map prmL).flatten ++ 58 :: l.value.data.toList with
      | nil => rw [hq] at g; cases g
      | cons c t => rw [hq] at g; simp only [List.head?_cons, Option.some.injEq] at g; exact ⟨c, t, rfl, by rw [g]; rfl⟩
    · cases hq : (l.prms.map prmL).flatten ++ 58 :: l.value.data.toList with
      | nil => rw [hq] at g; cases g
      | cons c t => rw [hq] at g; simp only [List.head?_cons, Option.some.injEq] at g; exact ⟨c, t, rfl, by rw [g]; rfl⟩
  have hf : fstOf (lineL l) [59, 58] = some l.name.data.toList.length := by
    rw [e, hct]
    refine fstOf_app (fun b hb => ?_) hc t
    have := okC_facts (hk b hb)
    simp [this.2.2.2.1, this.2.2.2.2.1]
  have ht : (lineL l).take l.name.data.toList.length = l.name.data.toList := by rw [e, List.take_left]
  have hd : (lineL l).drop l.name.data.toList.length = (l.prms.map prmL).flatten ++ 58 :: l.value.data.toList := by rw [e, List.drop_left]
  have hl : l.prms.length + 1 ≤ (lineL l).length + 1 := by
    have := prms_len l.prms
    rw [e]
    simp only [List.length_append, List.length_cons]
    omega
  have hp := prmsP_text l.value.data.toList l.prms [] ((lineL l).length + 1) h2 hl
  have hq := lnP_prms hf (by rw [ht, great_name h1]; exact h1) (show prmsP ((lineL l).length + 1) [] ((lineL l).drop l.name.data.toList.length) = (0, l.prms, 58 :: l.value.data.toList) by rw [hd, hp]; rfl)
  have := hq.2.2 rfl h3
  rw [this, ht, great_name h1, List.tail_cons, bs_of, bs_of]
/-! ### What a line's bytes are -/
theorem quote_ctl {v : List UInt8} (h : cleanQ v = true) : ∀ c, c ∈ quote v → ctl c = false := by
  intro c hc
  unfold quote at hc
  split at hc
  · simp only [List.mem_cons, List.mem_append, List.not_mem_nil, or_false] at hc
    rcases hc with rfl | hc | rfl
    · rfl
    · exact (cleanQ_mem h c hc).1
    · rfl
  · exact (cleanQ_mem h c hc).1
theorem valsT_ctl : ∀ (r : List ByteArray), (∀ v, v ∈ r → VOk v) → ∀ c, c ∈ valsT r → ctl c = false := by
  intro r
  induction r with
  | nil => intro _ c hc; cases hc
  | cons a r ih =>
    intro h c hc
    simp only [valsT, List.mem_cons, List.mem_append] at hc
    rcases hc with rfl | hc | hc
    · rfl
    · exact quote_ctl (h a List.mem_cons_self) c hc
    · exact ih (fun v hv => h v (List.mem_cons_of_mem _ hv)) c hc
theorem name_ctl {l : List UInt8} (h : nameB l = true) : ∀ c, c ∈ l → ctl c = false := fun c hc => (okC_facts ((name_parts h).2 c hc)).1
theorem prmL_ctl {x : Prm} (h : XOk x) : ∀ c, c ∈ prmL x → ctl c = false := by
  intro c hc
  obtain ⟨h1, h2, h3⟩ := h
  unfold prmL at hc
  rw [valsL_all] at hc
  obtain ⟨v, r, hv⟩ := List.exists_cons_of_ne_nil h2
  rw [hv, valsQ] at hc
  rw [hv] at h3
  simp only [List.mem_cons, List.mem_append] at hc
  rcases hc with rfl | hc | rfl | hc | hc
  · rfl
  · exact name_ctl h1 c hc
  · rfl
  · exact quote_ctl (h3 v List.mem_cons_self) c hc
  · exact valsT_ctl r (fun v hv => h3 v (List.mem_cons_of_mem _ hv)) c hc
theorem lineL_ctl {l : Ln} (h : LOk l) : ∀ c, c ∈ lineL l → ctl c = false := by
  intro c hc
  obtain ⟨h1, h2, h3⟩ := h
  unfold lineL at hc
  rw [prmsL_all] at hc
  simp only [List.mem_cons, List.mem_append, List.mem_flatten, List.mem_map] at hc
  rcases hc with (hc | ⟨y, ⟨x, hx, rfl⟩, hc⟩) | rfl | hc
  · exact name_ctl h1 c hc
  · exact prmL_ctl (h2 x hx) c hc
  · rfl
  · unfold cleanB at h3
    rw [Bool.not_eq_true'] at h3
    have := List.any_eq_false.1 h3 c hc
    simpa using this
theorem no_lf {l : List UInt8} (h : ∀ c, c ∈ l → ctl c = false) : 10 ∉ l := fun e => absurd (h 10 e) (by decide)
theorem line_goes {l : Ln} (h : LOk l) : goes (lineL l) = false ∧ lineL l ≠ [] := by
  obtain ⟨hn, hk⟩ := name_parts h.1
  unfold lineL
  cases hb : l.name.data.toList with
  | nil => exact absurd hb hn
  | cons a t =>
    have := okC_facts (hk a (by rw [hb]; exact List.mem_cons_self))
    refine ⟨?_, by simp⟩
    show (a == 32 || a == 9) = false
    simp [this.2.2.2.2.2.1, this.2.2.2.2.2.2]
/-! ### Parts -/
/-- The lines of a part. -/
def headN (nm : ByteArray) : Ln := ⟨bs [66, 69, 71, 73, 78], [], nm⟩
def lastN (nm : ByteArray) : Ln := ⟨bs [69, 78, 68], [], nm⟩
theorem head_text (nm : ByteArray) : lineL (headN nm) = beginL ++ nm.data.toList := rfl
theorem last_text (nm : ByteArray) : lineL (lastN nm) = endL ++ nm.data.toList := rfl
theorem name_clean {l : List UInt8} (h : nameB l = true) : cleanB l = true := by
  unfold cleanB
  rw [Bool.not_eq_true', List.any_eq_false]
  intro c hc
  simp [name_ctl h c hc]
theorem head_ok {nm : ByteArray} (h : nameB nm.data.toList = true) : LOk (headN nm) := ⟨show nameB [66, 69, 71, 73, 78] = true by decide, fun x hx => (List.not_mem_nil hx).elim, name_clean h⟩
theorem last_ok {nm : ByteArray} (h : nameB nm.data.toList = true) : LOk (lastN nm) := ⟨show nameB [69, 78, 68] = true by decide, fun x hx => (List.not_mem_nil hx).elim, name_clean h⟩
mutual
def linesP : Part → List Ln
  | .mk s ls ps => headN s :: (ls ++ linesPs ps ++ [lastN s])
def linesPs : List Part → List Ln
  | [] => []
  | p :: r => linesP p ++ linesPs r
end
theorem linesP_eq (p : Part) : linesP p = headN p.name :: (p.lines ++ linesPs p.parts ++ [lastN p.name]) := by cases p; rw [linesP]; rfl
/-- A part that may be. -/
def GoodP : Nat → Part → Prop
  | 0, _ => False
  | k + 1, p => nameB p.name.data.toList = true ∧ (∀ l, l ∈ p.lines → lineE l = 0) ∧ ∀ c, c ∈ p.parts → GoodP k c
theorem chkL_good {k : Nat} (ih : ∀ (n : Int) (p : Part), (chkP k n p).1 = 0 → GoodP k p ∧ (chkP k n p).2 = n + (linesP p).length ∧ (chkP k n p).2 ≤ 2000) : ∀ (l : List Part) (n : Int), (chkL (chkP k) n l).1 = 0 → (∀ c, c ∈ l → GoodP k c) ∧ (chkL (chkP k) n l).2 = n + (linesPs l).length ∧ (n ≤ 2000 → (chkL (chkP k) n l).2 ≤ 2000) := by
  intro l
  induction l with
  | nil => intro n _; exact ⟨fun c h => (List.not_mem_nil h).elim, by simp [chkL_nil, linesPs], fun h => h⟩
  | cons p l ihl =>
    intro n h
    by_cases h0 : (chkP k n p).1 = 0
    · rw [chkL_go h0] at h ⊢
      obtain ⟨a1, a2, a3⟩ := ih n p h0
      obtain ⟨b1, b2, b3⟩ := ihl _ h
      refine ⟨fun c hc => ?_, ?_, fun _ => b3 a3⟩
      · rcases List.mem_cons.1 hc with rfl | hc
        · exact a1
        · exact b1 c hc
      · rw [b2, a2, linesPs, List.length_append]; omega
    · rw [chkL_hit h0] at h; exact absurd h h0
theorem chk_good : ∀ (k : Nat) (n : Int) (p : Part), (chkP k n p).1 = 0 → GoodP k p ∧ (chkP k n p).2 = n + (linesP p).length ∧ (chkP k n p).2 ≤ 2000 := by
  intro k
  induction k with
  | zero => intro n p h; rw [chkP_zero] at h; exact absurd h (show (6 : Int) ≠ 0 by decide)
  | succ k ih =>
    intro n p h
    by_cases h1 : 2000 < n + (2 + (p.lines.length : Int))
    · rw [chkP_many h1] at h; exact absurd h (show (6 : Int) ≠ 0 by decide)
    · cases h2 : nameB p.name.data.toList with
      | false => rw [chkP_name h1 h2] at h; exact absurd h (show (8 : Int) ≠ 0 by decide)
      | true =>
        by_cases h3 : firstE lineE p.lines = 0
        · rw [chkP_parts h1 h2 h3] at h ⊢
          obtain ⟨a1, a2, a3⟩ := chkL_good ih _ _ h
          refine ⟨⟨h2, firstE_all h3, a1⟩, ?_, a3 (by omega)⟩
          rw [a2, linesP_eq]
          simp only [List.length_cons, List.length_append, List.length_nil]
          omega
        · rw [chkP_line h1 h2 h3] at h; exact absurd h h3
/-- The text of lines. -/
theorem linesL_take (ls : List Ln) : ∀ k, k ≤ ls.length → linesL ls k = ((ls.take k).map (foldL ∘ lineL)).flatten := by
  intro k
  induction k with
  | zero => intro _; simp [linesL]
  | succ k ih =>
    intro h
    have hk : k < ls.length := by omega
    have e0 : linesL ls (k + 1) = linesL ls k ++ foldL (lineL (ls.getD k ln0)) := rfl
    have e : ls.getD k ln0 = ls[k] := by simp [List.getD, hk]
    rw [e0, ih (by omega), e, List.take_succ_eq_append_getElem hk, List.map_append, List.flatten_append]
    simp only [List.map_cons, List.map_nil, List.flatten_cons, List.flatten_nil, List.append_nil, Function.comp]
mutual
theorem text_lines : ∀ p : Part, textP p = ((linesP p).map (foldL ∘ lineL)).flatten
  | .mk s ls ps => by
    have h := text_liness ps
    rw [textP, linesP, linesL_take ls _ (Nat.le_refl _), List.take_length, h]
    simp [head_text, last_text]
theorem text_liness : ∀ l : List Part, textPs l = ((linesPs l).map (foldL ∘ lineL)).flatten
  | [] => by simp [textPs, linesPs]
  | p :: r => by
    have h1 := text_lines p
    have h2 := text_liness r
    rw [textPs, linesPs, h1, h2]
    simp
end
theorem good_lines : ∀ (k : Nat) (p : Part), GoodP k p → ∀ l, l ∈ linesP p → LOk l := by
  intro k
  induction k with
  | zero => intro p h; exact h.elim
  | succ k ih =>
    intro p h l hl
    obtain ⟨h1, h2, h3⟩ := h
    rw [linesP_eq] at hl
    simp only [List.mem_cons, List.mem_append, List.not_mem_nil, or_false] at hl
    rcases hl with rfl | (hl | hl) | rfl
    · exact head_ok h1
    · exact (lineE_ok (h2 l hl)).1
    · have : ∀ (ps : List Part), (∀ c, c ∈ ps → GoodP k c) → l ∈ linesPs ps → LOk l := by
        intro ps
        induction ps with
        | nil => intro _ hl; cases hl
        | cons c ps ihp =>
          intro h hl
          rw [linesPs, List.mem_append] at hl
          rcases hl with hl | hl
          · exact ih c (h c List.mem_cons_self) l hl
          · exact ihp (fun c hc => h c (List.mem_cons_of_mem _ hc)) hl
      exact this p.parts h3 hl
    · exact last_ok h1
theorem unf_lines : ∀ (L : List Ln), (∀ l, l ∈ L → LOk l) → ∀ (rest : List UInt8) (acc : List (List UInt8)), (linesOf ((L.map (foldL ∘ lineL)).flatten ++ rest)).foldl stepU acc = (linesOf rest).foldl stepU (acc ++ L.map lineL) := by
  intro L
  induction L with
  | nil => intro _ rest acc; simp
  | cons l L ih =>
    intro h rest acc
    have hl := h l List.mem_cons_self
    obtain ⟨g1, g2⟩ := line_goes hl
    rw [List.map_cons, List.flatten_cons, List.append_assoc]
    show (linesOf (foldL (lineL l) ++ ((L.map (foldL ∘ lineL)).flatten ++ rest))).foldl stepU acc = _
    rw [unf_fold (no_lf (lineL_ctl hl)) g1 g2, ih (fun x hx => h x (List.mem_cons_of_mem _ hx))]
    simp
theorem LW_lines : ∀ (L : List Ln), (∀ l, l ∈ L → LOk l) → ∀ (rest : List UInt8), LW 0 rest → LW 0 ((L.map (foldL ∘ lineL)).flatten ++ rest) := by
  intro L
  induction L with
  | nil => intro _ rest h; simpa using h
  | cons l L ih =>
    intro h rest hr
    rw [List.map_cons, List.flatten_cons, List.append_assoc]
    exact LW_fold (no_lf (lineL_ctl (h l List.mem_cons_self))) (ih (fun x hx => h x (List.mem_cons_of_mem _ hx)) rest hr)
/-- No line of a printed part is too long. -/
theorem LW_part {k : Nat} {p : Part} (h : GoodP k p) : LW 0 (textP p) := by
  have := LW_lines (linesP p) (good_lines k p h) [] trivial
  rw [List.append_nil, ← text_lines] at this
  exact this
theorem unf_part {k : Nat} {p : Part} (h : GoodP k p) : unfL (textP p) = (linesP p).map lineL := by
  have := unf_lines (linesP p) (good_lines k p h) [] []
  rw [List.append_nil, ← text_lines, linesOf_nil] at this
  exact this
/-! ### Parts are read -/
theorem drop_getD {lines : List (List UInt8)} {a : Nat} {x : List UInt8} {r : List (List UInt8)} (h : lines.drop a = x :: r) : a < lines.length ∧ lines.getD a [] = x ∧ lines.drop (a + 1) = r := by
  have h1 : a < lines.length := by
    rcases Nat.lt_or_ge a lines.length with g | g
    · exact g
    · rw [List.drop_of_length_le g] at h; cases h
  rw [List.drop_eq_getElem_cons h1] at h
  injection h with e1 e2
  exact ⟨h1, by simp [List.getD, h1, e1], e2⟩
theorem loop_end {lines : List (List UInt8)} {g : Nat → PtP} {nm : ByteArray} (hn : nameB nm.data.toList = true) {f a : Nat} {ls : List Ln} {ps : List Part} {post : List (List UInt8)} (h : lines.drop a = lineL (lastN nm) :: post) : loopP lines g nm (f + 1) ls ps a = ⟨0, .mk nm ls ps, a + 1⟩ := by
  obtain ⟨h1, h2, h3⟩ := drop_getD h
  rw [loopP_step h1, h2, lnP_text (last_ok hn)]
  rw [if_neg (by simp), if_neg (show ¬ ((0 : Int), lastN nm).2.name.data.toList = [66, 69, 71, 73, 78] from (show ¬ ([69, 78, 68] : List UInt8) = [66, 69, 71, 73, 78] by decide)), if_pos (by rfl), if_neg ?_]
  rintro (e | e)
  · exact e rfl
  · exact e (great_name hn)
theorem loop_lines {lines : List (List UInt8)} {g : Nat → PtP} {nm : ByteArray} : ∀ (L : List Ln) (f a : Nat) (ls : List Ln) (post : List (List UInt8)), (∀ l, l ∈ L → lineE l = 0) → lines.drop a = L.map lineL ++ post → L.length ≤ f → loopP lines g nm f ls [] a = loopP lines g nm (f - L.length) (ls ++ L) [] (a + L.length) := by
  intro L
  induction L with
  | nil => intro f a ls post _ _ _; simp
  | cons l L ih =>
    intro f a ls post h hd hf
    obtain ⟨f, rfl⟩ : ∃ k, f = k + 1 := ⟨f - 1, by simp at hf; omega⟩
    obtain ⟨h1, h2, h3⟩ := drop_getD hd
    obtain ⟨k1, k2, k3⟩ := lineE_ok (h l List.mem_cons_self)
    rw [loopP_step h1, h2, lnP_text k1]
    simp only
    rw [if_neg (by simp), if_neg k2, if_neg k3, if_neg (by simp), ih f (a + 1) _ post (fun x hx => h x (List.mem_cons_of_mem _ hx)) h3 (by simp at hf; omega)]
    simp only [List.length_cons]
    rw [show f + 1 - (L.length + 1) = f - L.length by omega, show a + 1 + L.length = a + (L.length + 1) by omega]
    simp
theorem loop_parts {lines : List (List UInt8)} {k : Nat} {nm : ByteArray} (ih : ∀ (p : Part) (a : Nat) (post : List (List UInt8)), GoodP k p → lines.drop a = (linesP p).map lineL ++ post → partP lines k a = ⟨0, p, a + (linesP p).length⟩) : ∀ (P : List Part) (f a : Nat) (ls : List Ln) (ps : List Part) (post : List (List UInt8)), (∀ c, c ∈ P → GoodP k c) → lines.drop a = (linesPs P).map lineL ++ post → P.length ≤ f → loopP lines (partP lines k) nm f ls ps a = loopP lines (partP lines k) nm (f - P.length) ls (ps ++ P) (a + (linesPs P).length) := by
  intro P
  induction P with
  | nil => intro f a ls ps post _ _ _; simp [linesPs]
  | cons c P ihP =>
    intro f a ls ps post h hd hf
    obtain ⟨f, rfl⟩ : ∃ k, f = k + 1 := ⟨f - 1, by simp at hf; omega⟩
    have hc := h c List.mem_cons_self
    have hd2 : lines.drop a = (linesP c).map lineL ++ ((linesPs P).map lineL ++ post) := by rw [hd, linesPs]; simp
    have hp := ih c a _ hc hd2
    have hnm : nameB c.name.data.toList = true := by
      cases k with
      | zero => exact hc.elim
      | succ k => exact hc.1
    have hd3 : lines.drop a = lineL (headN c.name) :: ((c.lines ++ linesPs c.parts ++ [lastN c.name]).map lineL ++ ((linesPs P).map lineL ++ post)) := by rw [hd2, linesP_eq]; simp
    obtain ⟨h1, h2, h3⟩ := drop_getD hd3
    have hd4 : lines.drop (a + (linesP c).length) = (linesPs P).map lineL ++ post := by
      rw [← List.drop_drop, hd2]
      exact List.drop_left' (by simp)
    rw [loopP_step h1, h2, lnP_text (head_ok hnm)]
    rw [if_neg (by simp), if_pos (by rfl), hp]
    simp only
    rw [if_neg (by simp), ihP f _ ls _ post (fun x hx => h x (List.mem_cons_of_mem _ hx)) hd4 (by simp at hf; omega)]
    simp only [List.length_cons, linesPs, List.length_append]
    rw [show f + 1 - (P.length + 1) = f - P.length by omega, show a + (linesP c).length + (linesPs P).length = a + ((linesP c).length + (linesPs P).length) by omega]
    simp
theorem parts_len : ∀ (P : List Part), P.length ≤ (linesPs P).length
  | [] => Nat.le_refl _
  | p :: r => by
    have := parts_len r
    rw [linesPs, List.length_append, List.length_cons, linesP_eq, List.length_cons]
    omega
theorem part_read {lines : List (List UInt8)} : ∀ (k : Nat) (p : Part) (a : Nat) (post : List (List UInt8)), GoodP k p → lines.drop a = (linesP p).map lineL ++ post → partP lines k a = ⟨0, p, a + (linesP p).length⟩ := by
  intro k
  induction k with
  | zero => intro p a post h; exact h.elim
  | succ k ih =>
    intro p a post h hd
    obtain ⟨h1, h2, h3⟩ := h
    have hd0 : lines.drop a = lineL (headN p.name) :: (p.lines.map lineL ++ ((linesPs p.parts).map lineL ++ (lineL (lastN p.name) :: post))) := by rw [hd, linesP_eq]; simp
    obtain ⟨a1, a2, a3⟩ := drop_getD hd0
    have hl := lnP_text (head_ok h1)
    have hE : Go.Proofs.YtidgahnamdhflaaDoor.headE lines a = 0 := by
      unfold Go.Proofs.YtidgahnamdhflaaDoor.headE
      rw [if_pos a1, a2, hl]
      simp only
      rw [if_neg (by simp), if_neg (by rintro (e | e); exact e rfl; exact e rfl), if_neg (by show ¬ nameB (greatL p.name.data.toList) = false; rw [great_name h1, h1]; decide)]
    have hlen : lines.length = a + (linesP p).length + post.length := by
      have := congrArg List.length hd
      simp only [List.length_drop, List.length_append, List.length_map] at this
      omega
    have hpl := parts_len p.parts
    have hll : (linesP p).length = p.lines.length + (linesPs p.parts).length + 2 := by rw [linesP_eq]; simp only [List.length_cons, List.length_append, List.length_nil]
    rw [partP_succ hE, a2, hl]
    have hb : bs (greatL (headN p.name).value.data.toList) = p.name := by show bs (greatL p.name.data.toList) = _; rw [great_name h1, bs_of]
    rw [show ((0 : Int), headN p.name).2.value = (headN p.name).value from rfl, hb]
    have hd1 : lines.drop (a + 1 + p.lines.length) = (linesPs p.parts).map lineL ++ (lineL (lastN p.name) :: post) := by
      rw [← List.drop_drop, a3]
      exact List.drop_left' (by simp)
    have hd2 : lines.drop (a + 1 + p.lines.length + (linesPs p.parts).length) = lineL (lastN p.name) :: post := by
      rw [← List.drop_drop, hd1]
      exact List.drop_left' (by simp)
    rw [loop_lines p.lines _ _ [] _ h2 a3 (by omega), loop_parts ih p.parts _ _ _ [] _ h3 hd1 (by omega)]
    obtain ⟨f, hf⟩ : ∃ f, lines.length + 1 - p.lines.length - p.parts.length = f + 1 := ⟨lines.length - p.lines.length - p.parts.length, by omega⟩
    rw [hf, loop_end h1 hd2, List.nil_append, List.nil_append, hll]
    have : Part.mk p.name p.lines p.parts = p := by cases p; rfl
    rw [this]
    congr 1
    omega
/-- What is printed is read. -/
theorem parse_print {p : Part} (h : (chkP 8 0 p).1 = 0) : parseP (textP p) = if 100000 < (textP p).length then (6, -1, part0) else (0, -1, p) := by
  obtain ⟨h1, h2, h3⟩ := chk_good 8 0 p h
  by_cases hl : 100000 < (textP p).length
  · unfold parseP; rw [if_pos hl, if_pos hl]
  · have hU := unf_part h1
    have hn : (unfL (textP p)).length = (linesP p).length := by rw [hU, List.length_map]
    have hr := part_read (lines := unfL (textP p)) 8 p 0 [] h1 (by rw [hU]; simp)
    unfold parseP
    rw [if_neg hl, if_neg hl, if_neg (by omega)]
    simp only
    rw [hr]
    rw [if_neg (by simp), if_neg (by simp only; omega)]
end Go.Proofs.YtidgahnamdhflaaDoor.Psx
