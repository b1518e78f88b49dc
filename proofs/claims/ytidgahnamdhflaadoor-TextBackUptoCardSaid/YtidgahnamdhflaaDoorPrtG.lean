/- strings.IndexAny, strings.ContainsAny at a few ASCII bytes, over any text. -/
import Derived.Test.YtidgahnamdhflaaDoorPrtC
import Derived.Test.YtidgahnamdhflaaDoorPrtLay
import Derived.Test.YtidgahnamdhflaaDoorFldD
import Derived.Laws.Runes
import Derived.Laws.RangeAny
import Derived.Deep.LoopGhost
import Derived.WalkMore
namespace Go.Proofs.YtidgahnamdhflaaDoor
open Go.RowKit Go.Shelf Fld Prt
theorem quiet_add_same {P : Program} {f : FuncId} {args : Array Value} {w : World} {a n : Nat} {v : Value} (h : Calls P f args (w.drewN (a + n)) fun e w' => e = .returned v ∧ w' = w.drewN (a + n)) : Calls P f args (w.drewN (a + n)) fun e w'' => e = .returned v ∧ ∃ m, w'' = w.drewN (a + m) :=
  h.mono fun _ _ ⟨he, hm⟩ => ⟨he, n, hm⟩
theorem ib_none (q : ByteArray) (c : UInt8) (h : q.data.toList.contains c = false) (w : World) : Calls Tryd.prog 46 #[.string q, .int .u8 (c.toNat : Int)] w fun e w' => e = .returned (.int .i64 (-1)) ∧ w' = w := by
  refine (Any.strings_IndexByte layIB q (c.toNat : Int) w).mono ?_
  rintro e w' ⟨rfl, rfl⟩
  refine ⟨?_, rfl⟩
  have h1 := idx_miss c q.data.toList (fun hm => by rw [← List.contains_iff_mem] at hm; rw [hm] at h; cases h)
  simp [h1]
/-- What a character takes: none of its further bytes is an ASCII one. -/
theorem decode_skip (s : ByteArray) (pos : Nat) (j : Nat) (h1 : 1 ≤ j) (h2 : j < (Utf8.decode s pos).2) : pos + j < s.size ∧ 128 ≤ (s.get! (pos + j)).toNat := by
  unfold Utf8.decode at h2
  simp only at h2
  repeat' split at h2
  all_goals (try simp only at h2)
  all_goals (try omega)
  all_goals simp_all only [Bool.and_eq_true, decide_eq_true_eq, beq_iff_eq]
  all_goals (rcases (show j = 1 ∨ j = 2 ∨ j = 3 by omega) with rfl | rfl | rfl)
  all_goals (first | omega | (constructor <;> omega))
theorem decode_size (s : ByteArray) (pos : Nat) (h : pos < s.size) : 1 ≤ (Utf8.decode s pos).2 ∧ pos + (Utf8.decode s pos).2 ≤ s.size := by
  have h1 : 1 ≤ (Utf8.decode s pos).2 := by
    unfold Utf8.decode
    simp only
    repeat' split
    all_goals simp
  refine ⟨h1, ?_⟩
  by_cases h2 : (Utf8.decode s pos).2 = 1
  · omega
  · have := (decode_skip s pos ((Utf8.decode s pos).2 - 1) (by omega) (by omega)).1
    omega
theorem get_at2 (s : ByteArray) (pos : Nat) (h : pos < s.size) : s.get! pos = s[pos]'h := by
  have := get_at s pos h
  simpa using this
set_option maxRecDepth 100000 in
set_option maxHeartbeats 8000000 in
theorem ir_high (s : ByteArray) (r : Int) (w : World) (h0 : 128 ≤ r) (h1 : r ≤ 2147483647) (hc : ∀ b, b ∈ s.data.toList → b.toNat < 128) :
    Calls Tryd.prog 92 #[.string s, .int .i32 r] w fun e w' => e = .returned (.int .i64 (-1)) ∧ Below w.heap.size w w' := by
  have HC := Lib.hid hc
  clear hc
  by_cases hr : r = 65533
  · subst hr
    go_enter Tryd.func92, Tryd.ntmps92
    go_wp2
    go_loopg [5, 6] s.size (fun g _ _ wx => ∃ i : Nat, i + g = s.size ∧ wx = w.iter s i)
    case atStart => exact ⟨0, by omega, rfl⟩
    case round =>
      obtain ⟨i, hig, rfl⟩ := hrel
      cases gk with
      | zero =>
        obtain rfl : i = s.size := by omega
        have hnx := run_next_end (P := Tryd.prog) w s s.size
        go_wp2
        go_ret
        exact ⟨rfl, (Below.refl _ _).alloc (Nat.le_refl _) _⟩
      | succ g =>
        have hi : i < s.size := by omega
        obtain ⟨x, hx⟩ : ∃ x : UInt8, s[i]'hi = x := ⟨_, rfl⟩
        have hx128 : x.toNat < 128 := HC.out x (by rw [← hx]; exact Array.getElem_mem_toList _)
        have hnx := fun ty => run_next_ascii (P := Tryd.prog) w s i ty hi (by rw [hx]; exact hx128)
        rw [hx] at hnx
        have d1 : ((x.toNat : Int) == 65533) = false := beq_eq_false_iff_ne.2 (by omega)
        clear hx
        go_wp2
        go_roundg g
        case measure => omega
        case rel => exact ⟨i + 1, by omega, rfl⟩
  · have d1 : (r == 65533) = false := beq_eq_false_iff_ne.2 hr
    have CV : Hid (∀ w0, Calls Tryd.prog 103 #[.int .i32 r] w0 fun e w' => e = .returned (.bool (Lib.validRune r)) ∧ w0 = w') := Lib.hid fun w0 => (Any.utf8_ValidRune layVR r w0).mono fun e w' h => ⟨h.1, h.2.symm⟩
    cases hv : Lib.validRune r with
    | false =>
      rw [hv] at CV
      go_enter Tryd.func92, Tryd.ntmps92
      go_wp2_with (go_at_call 103; refine (CV.out _).mono ?_; rintro e w1 ⟨rfl, rfl⟩)
      go_ret
      exact ⟨rfl, Below.refl _ _⟩
    | true =>
      rw [hv] at CV
      have hval : Utf8.valid r = true := by rw [validRune_eq]; exact hv
      obtain ⟨e1, e2, e3⟩ := encode_facts r hval h0
      obtain ⟨E, hE⟩ : ∃ E, Utf8.encode r = E := ⟨_, rfl⟩
      have hlast : E.size - 1 < E.size := by rw [← hE]; omega
      have hl128 : 128 ≤ (E[E.size - 1]'hlast).toNat := by subst hE; exact e3 _
      rw [hE] at e1 e2
      obtain ⟨N, hN⟩ : ∃ N, E.size = N + 1 := ⟨E.size - 1, by omega⟩
      obtain ⟨c, hcc⟩ : ∃ c, E[E.size - 1]'hlast = c := ⟨_, rfl⟩
      rw [hcc] at hl128
      have hNl : N < E.size := by omega
      have hcc2 : E[N]'hNl = c := by rw [← hcc]; congr 1; omega
      have hN1 : 1 ≤ N := by omega
      have hN3 : N ≤ 3 := by omega
      have H128 := Lib.hid hl128
      clear e3 hlast hcc hval hv e1 e2
      have k0 : (0 : Int) ≤ (N : Int) := by omega
      have k1 : (N : Int) < (E.size : Int) := by omega
      by_cases hin : N < s.size
      · have hb : (s[N]'hin).toNat < 128 := HC.out _ (Array.getElem_mem_toList _)
        have hne : (((s[N]'hin).toNat : Int) == (c.toNat : Int)) = false := beq_eq_false_iff_ne.2 (by omega)
        have hne2 : (((s[N]'hin).toNat : Int) != (c.toNat : Int)) = true := by rw [bne, hne]; rfl
        have CI : Hid (∀ w0, Calls Tryd.prog 46 #[.string (s.extract (N + 1) s.size), .int .u8 (c.toNat : Int)] w0 fun e w' => e = .returned (.int .i64 (-1)) ∧ w' = w0) := Lib.hid fun w0 => by
          refine ib_none _ _ ?_ w0
          rw [Bool.eq_false_iff]
          intro h2
          have h3 := List.contains_iff_mem.1 h2
          have h4 := HC.out c (mem_extract h3)
          have h5 := H128.out
          omega
        have kw : IntKind.i64.wrap ((N : Int) + 1) = (N : Int) + 1 := IntWalk.i64_in _ (by omega)
        have q1 : (0 : Int) ≤ (N : Int) + 1 := by omega
        have q2 : ((N : Int) + 1).toNat = N + 1 := by omega
        have q3 : (N : Int) + 1 ≤ (s.size : Int) := by omega
        have k2 : (N : Int) < (s.size : Int) := by omega
        clear hb
        go_enter Tryd.func92, Tryd.ntmps92
        go_wp2_with (first
          | (go_at_call 103; refine (CV.out _).mono ?_; rintro e w1 ⟨rfl, rfl⟩)
          | (go_at_call 46; refine (CI.out _).mono ?_; rintro e w1 ⟨rfl, rfl⟩))
        go_step3
        go_wp2_with fail
        go_loop [9] (fun u => u = .int .i64 (N : Int)) (fun _ => 0)
        case atStart => exact rfl
        case round =>
          obtain rfl := hrel
          go_wp2_with fail
          go_step3
          go_wp2_with fail
          go_quiet (fail)
          go_wp2_with fail
          go_quiet ((go_at_call 46; exact quiet_add_same (CI.out _)))
          go_wp2_with fail
          rw [Exit.noGoto_ret]
          go_wp2_with fail
          rw [Exit.noGoto_ret]
          go_ret
          exact ⟨rfl, below_drewN (Below.refl _ _) _⟩
      · have d2 : decide ((N : Int) < (s.size : Int)) = false := decide_eq_false (by omega)
        go_enter Tryd.func92, Tryd.ntmps92
        go_wp2_with (go_at_call 103; refine (CV.out _).mono ?_; rintro e w1 ⟨rfl, rfl⟩)
        go_step3
        go_wp2_with fail
        go_loop [9] (fun u => u = .int .i64 (N : Int)) (fun _ => 0)
        case atStart => exact rfl
        case round =>
          obtain rfl := hrel
          go_wp2_with fail
          go_ret
          exact ⟨rfl, Below.refl _ _⟩
theorem indexAny_app (cs : List UInt8) : ∀ (l : List UInt8), (∀ b, b ∈ l → cs.contains b = false) → Lib.indexAny l cs = -1 := by
  intro l
  induction l with
  | nil => intro _; rfl
  | cons b l ih =>
    intro h
    have h1 := h b (by simp)
    have h2 := ih fun c hc => h c (by simp [hc])
    rw [Lib.indexAny, h1, h2]; rfl
theorem getE_list (s : ByteArray) (j : Nat) (h : j < s.size) : s.data.toList[j]? = some (s[j]'h) := Lib.data_getElem? s j h
/-- None of the set's bytes stands ahead of a place. -/
theorem noAny_skip {s q : ByteArray} {i n : Nat} (h : Lib.NoAny s.data.toList q.data.toList i) (hq : ∀ b, b ∈ q.data.toList → b.toNat < 128) (hi : i < s.size) (hx : 128 ≤ (s[i]'hi).toNat) (hn : n = (Utf8.decode s i).2) : Lib.NoAny s.data.toList q.data.toList (i + n) := by
  intro j x hj hjx
  by_cases h1 : j < i
  · exact h j x h1 hjx
  · have hjs : j < s.size := by
      have h2 := (List.getElem?_eq_some_iff.1 hjx).1
      rwa [len_eq] at h2
    have hxx : s[j]'hjs = x := by rw [getE_list s j hjs] at hjx; exact Option.some.inj hjx
    have h128 : 128 ≤ x.toNat := by
      by_cases h2 : j = i
      · subst h2; rw [← hxx]; exact hx
      · have h3 := (decode_skip s i (j - i) (by omega) (by omega)).2
        rw [show i + (j - i) = j by omega, get_at2 s j hjs, hxx] at h3
        exact h3
    rw [Bool.eq_false_iff]
    intro h3
    have := hq x (List.contains_iff_mem.1 h3)
    omega
set_option maxHeartbeats 8000000 in
set_option maxRecDepth 1000000 in
/-- s of at most eight bytes. -/
theorem ia_short (s q : ByteArray) (w : World) (h2 : 2 ≤ q.size) (hq8 : q.size ≤ 8) (h8 : s.size ≤ 8) (hq : ∀ b, b ∈ q.data.toList → b.toNat < 128) :
    Calls Tryd.prog 77 #[.string s, .string q] w fun e w' => e = .returned (.int .i64 (Lib.indexAny s.data.toList q.data.toList)) ∧ Below w.heap.size w w' := by
  have HQ := Lib.hid hq
  clear hq
  have hemp := not_empty2 (s := q) (by omega)
  have hn1 : ((q.size : Int) == 1) = false := beq_eq_false_iff_ne.2 (by omega)
  have CS : Hid (∀ w0, Calls Tryd.prog 93 #[.int .i64 (s.size : Int)] w0 fun e w' => e = .returned (.bool false) ∧ w0 = w') := Lib.hid fun w0 => (Any.strings_shouldUseASCIISet { layXA with } (s.size : Int) w0).mono fun e w' h => ⟨by rw [h.1, decide_eq_false (by omega)], h.2.symm⟩
  go_enter Tryd.func77, Tryd.ntmps77
  go_wp2_with (go_at_call 93; refine (CS.out _).mono ?_; rintro e w' ⟨rfl, rfl⟩)
  have hN0 := Lib.NoAny.zero s.data.toList q.data.toList
  go_loopg [9, 10] s.size (fun g _ _ wx => ∃ i : Nat, s.size - i ≤ g ∧ i ≤ s.size ∧ Hid (wx.heap[w.heap.size]? = some (.stringIter s i)) ∧ Hid (Below w.heap.size w wx) ∧ Hid (Lib.NoAny s.data.toList q.data.toList i))
  case atStart => exact ⟨0, by omega, by omega, Lib.hid (World.iter_heap w s 0), Lib.hid ((Below.refl _ _).alloc (Nat.le_refl _) _), Lib.hid hN0⟩
  case round =>
    clear hN0
    obtain ⟨i, hig, his, HI, HB, HN⟩ := hrel
    obtain ⟨wA, rfl⟩ : ∃ wo : World, wo = wr := ⟨_, rfl⟩
    by_cases hi : i < s.size
    · obtain ⟨g, rfl⟩ : ∃ g, gk = g + 1 := ⟨gk - 1, by omega⟩
      have hnx := fun ty => Lib.run_next_any_at (P := Tryd.prog) wA w.heap.size s i ty HI.out hi
      obtain ⟨x, hx⟩ : ∃ x : UInt8, s[i]'hi = x := ⟨_, rfl⟩
      have hsz := decode_size s i hi
      by_cases hx128 : x.toNat < 128
      · have hda := decode_ascii s i hi (by rw [hx]; exact hx128)
        rw [hx] at hda
        rw [hda] at hnx
        have HX := Lib.hid (getE_list s i hi)
        rw [hx] at HX
        have HB2 := Lib.hid (Lib.below_iterAt HB.out (Nat.le_refl _) s (i + 1))
        have HI2 := Lib.hid (Lib.iterAt_heap wA w.heap.size s i (i + 1) HI.out)
        have hback : ((x.toNat : Int)).toNat.toUInt8 = x := by simp
        have hcon := Lib.contains_iff_indexByte q.data.toList x
        have CR : Hid (∀ w0, Calls Tryd.prog 92 #[.string q, .int .i32 (x.toNat : Int)] w0 fun e w' => e = .returned (.int .i64 (Lib.indexByte q.data.toList x)) ∧ w0 = w') := Lib.hid fun w0 => (Any.strings_IndexRune_ascii { layXA with } q (x.toNat : Int) w0 (by omega) (by omega)).mono fun e w' h => ⟨by rw [h.1, hback], h.2.symm⟩
        obtain ⟨y, hy⟩ : ∃ y, Lib.indexByte q.data.toList x = y := ⟨_, rfl⟩
        rw [hy] at hcon CR
        clear hda hx hback hy hsz
        cases hin : q.data.toList.contains x with
        | false =>
          rw [hin] at hcon
          have hlt : ¬ (0 : Int) ≤ y := of_decide_eq_false hcon.symm
          have HN2 := Lib.hid (HN.out.succ HX.out hin)
          clear hcon hin
          go_wp2_with (go_at_call 92; refine (CR.out _).mono ?_; rintro e w' ⟨rfl, rfl⟩)
          go_roundg g
          case measure => omega
          case rel => exact ⟨i + 1, by omega, by omega, HI2, HB2, HN2⟩
        | true =>
          rw [hin] at hcon
          have hge : (0 : Int) ≤ y := of_decide_eq_true hcon.symm
          have HF := Lib.hid (Lib.indexAny_hit HN.out HX.out hin)
          clear hcon hin
          go_wp2_with (go_at_call 92; refine (CR.out _).mono ?_; rintro e w' ⟨rfl, rfl⟩)
          go_ret
          exact ⟨by rw [HF.out]; rfl, HB2.out⟩
      · obtain ⟨hr1, hn1⟩ := decode_high s i hi (by rw [hx]; omega)
        have hr2 := decode_le s i
        have HN2 := Lib.hid (noAny_skip HN.out HQ.out hi (by rw [hx]; omega) rfl)
        obtain ⟨n, hn⟩ : ∃ n, (Utf8.decode s i).2 = n := ⟨_, rfl⟩
        obtain ⟨r, hr⟩ : ∃ r : Nat, (Utf8.decode s i).1 = r := ⟨_, rfl⟩
        rw [hn] at hnx hn1 hsz HN2
        rw [hr] at hnx hr1 hr2
        have HB2 := Lib.hid (Lib.below_iterAt HB.out (Nat.le_refl _) s (i + n))
        have HI2 := Lib.hid (Lib.iterAt_heap wA w.heap.size s i (i + n) HI.out)
        have HL : Hid (w.heap.size < (wA.iterAt w.heap.size s (i + n)).heap.size) := Lib.hid (Array.getElem?_eq_some_iff.1 HI2.out).1
        have CR : Hid (∀ w0, Calls Tryd.prog 92 #[.string q, .int .i32 (r : Int)] w0 fun e w' => e = .returned (.int .i64 (-1)) ∧ Below w0.heap.size w0 w') := Lib.hid fun w0 => ir_high q (r : Int) w0 (by omega) (by omega) HQ.out
        obtain ⟨wI, hwI⟩ : ∃ x, wA.iterAt w.heap.size s (i + n) = x := ⟨_, rfl⟩
        rw [hwI] at hnx HB2 HI2 HL
        clear hn hr hx hwI
        go_wp2_with (go_at_call 92; refine (CR.out _).mono ?_; rintro e w2 ⟨rfl, hb⟩; have HB3 := Lib.hid (HB2.out.trans (hb.mono (Nat.le_of_lt HL.out))); have HI3 := Lib.hid ((hb.block _ HL.out).trans HI2.out); clear hb)
        go_roundg g
        case measure => omega
        case rel => exact ⟨i + n, by omega, by omega, HI3, HB3, HN2⟩
    · obtain rfl : i = s.size := by omega
      have hnx := fun ty => Lib.run_next_end_at (P := Tryd.prog) wA w.heap.size s s.size ty HI.out hi
      have HF := Lib.hid (Lib.indexAny_none (s := s.data.toList) (chars := q.data.toList) (by rw [len_eq]; exact HN.out))
      go_wp2
      go_ret
      exact ⟨by rw [HF.out]; rfl, HB.out⟩
theorem ia_any (s q : ByteArray) (w : World) (h2 : 2 ≤ q.size) (hq8 : q.size ≤ 8) (hs : s.size < 4294967281) (hq : ∀ b, b ∈ q.data.toList → b.toNat < 128) :
    Calls Tryd.prog 77 #[.string s, .string q] w fun e w' => e = .returned (.int .i64 (Lib.indexAny s.data.toList q.data.toList)) ∧ Below w.heap.size w w' := by
  by_cases h8 : s.size ≤ 8
  · exact ia_short s q w h2 hq8 h8 hq
  · have h116 : (Tryd.prog.info? (layXA_ren.t 116)).map (fun i => (i.zero, i.size)) = some (some (.agg (Array.replicate 256 (.bool false))), 256) := by kernel_rfl
    refine (Any.strings_IndexAny_long layXA (zero_of_info h116).1 (zero_of_info h116).2 s q w h2 (by omega) hs (by omega) (fun j b h => hq b (List.mem_of_getElem? h))).mono ?_
    rintro e w' ⟨h1, rfl⟩
    exact ⟨h1, ((Below.refl _ _).alloc (Nat.le_refl _) _).alloc (by simp) _⟩
set_option maxHeartbeats 1000000 in
theorem ca_any (s q : ByteArray) (w : World) (h2 : 2 ≤ q.size) (hq8 : q.size ≤ 8) (hs : s.size < 4294967281) (hq : ∀ b, b ∈ q.data.toList → b.toNat < 128) :
    Calls Tryd.prog 69 #[.string s, .string q] w fun e w' => e = .returned (.bool (Lib.containsAny s.data.toList q.data.toList)) ∧ Below w.heap.size w w' := by
  have C := Lib.hid (ia_any s q w h2 hq8 hs hq)
  obtain ⟨x, hx⟩ : ∃ x, Lib.indexAny s.data.toList q.data.toList = x := ⟨_, rfl⟩
  have HX : Hid (Lib.containsAny s.data.toList q.data.toList = decide (0 ≤ x)) := Lib.hid (by unfold Lib.containsAny; rw [hx])
  rw [hx] at C
  clear hx hq hs h2 hq8
  go_enter Tryd.func69, Tryd.ntmps69
  go_wp2_with (go_at_call 77; refine C.out.mono ?_; rintro e w1 ⟨rfl, hb⟩; have HB := Lib.hid hb; clear hb)
  go_ret
  exact ⟨by rw [HX.out]; rfl, HB.out⟩
theorem three_ascii : ∀ b, b ∈ (⟨#[44, 59, 58]⟩ : ByteArray).data.toList → b.toNat < 128 := by decide
theorem special_any (s : ByteArray) (w : World) (hs : s.size < 4294967281) :
    Calls Tryd.prog 69 #[.string s, .string ⟨#[44, 59, 58]⟩] w fun e w' => e = .returned (.bool (special s.data.toList)) ∧ Below w.heap.size w w' :=
  ca_any s ⟨#[44, 59, 58]⟩ w (by decide) (by decide) hs three_ascii
theorem special_eq (l : List UInt8) : special l = (l.any (· == 44) || (l.any (· == 59) || l.any (· == 58))) := by
  unfold special
  rw [containsAny_any]
  induction l with
  | nil => rfl
  | cons a l ih =>
    rw [List.any_cons, ih, List.any_cons, List.any_cons, List.any_cons]
    have h : ([44, 59, 58] : List UInt8).contains a = (a == 44 || (a == 59 || a == 58)) := by
      rw [Bool.eq_iff_iff]; simp
    rw [h]
    cases a == 44 <;> cases a == 59 <;> cases a == 58 <;> cases l.any (· == 44) <;> cases l.any (· == 59) <;> cases l.any (· == 58) <;> rfl
end Go.Proofs.YtidgahnamdhflaaDoor
