/- clock.ParseSpan. Printed by a program of mine. -/
import Derived.Test.YtkfpnlenmdlmjaaGreatDoorZSpnB
namespace Go.Proofs.YtkfpnlenmdlmjaaGreatDoor
open Go.RowKit Scm Go.Shelf
theorem cparseP_any (s : ByteArray) (w : World) (hs : s.size ≤ 9223372036854775807) : Calls Tryz.prog 40 #[.string s] w (PerPost (perF s.data.toList) w) := by
  rcases hB : isB s 0 45 with _ | _
  · exact cparse_no s w hs hB
  · exact cparse_yes s w hs hB
theorem idxS_hit (c : UInt8) (p t : List UInt8) (h : c ∉ p) : Lib.indexByte (p ++ c :: t) c = p.length := by
  induction p with
  | nil => simp [Lib.indexByte]
  | cons b p ih =>
    simp at h
    have h1 : (b == c) = false := by simpa using fun e => h.1 e.symm
    rw [List.cons_append, Lib.indexByte, h1, ih h.2]
    have h2 : (((p.length : Nat) : Int) == -1) = false := by simp
    simp [h2]
theorem idxS_miss (c : UInt8) (l : List UInt8) (h : c ∉ l) : Lib.indexByte l c = -1 := by
  induction l with
  | nil => rfl
  | cons b p ih =>
    simp at h
    have h1 : (b == c) = false := by simpa using fun e => h.1 e.symm
    rw [Lib.indexByte, h1, ih h.2]
    simp
theorem CutAt.idx {s : ByteArray} {k : Nat} (h : CutAt s k) : Lib.indexByte s.data.toList 47 = (k : Int) := by
  obtain ⟨h1, h2⟩ := h
  obtain ⟨hk, he⟩ := List.getElem?_eq_some_iff.1 h1
  have hd : s.data.toList = s.data.toList.take k ++ 47 :: s.data.toList.drop (k + 1) := by
    conv => lhs; rw [← List.take_append_drop k s.data.toList, List.drop_eq_getElem_cons hk, he]
  rw [hd, idxS_hit]
  · rw [List.length_take]; omega
  · intro hm
    obtain ⟨j, hj, hje⟩ := List.mem_iff_getElem.1 hm
    rw [List.length_take] at hj
    rw [List.getElem_take] at hje
    exact h2 j (by omega) (List.getElem?_eq_some_iff.2 ⟨by omega, hje⟩)
set_option maxRecDepth 100000 in
set_option maxHeartbeats 2000000 in
theorem cutS_hit (s : ByteArray) (k : Nat) (w : World) (h : CutAt s k) (hs : s.size ≤ 9223372036854775807) :
    Calls Tryz.prog 60 #[.string s, .string ⟨#[47]⟩] w fun e w' => e = .returned (.tuple #[.string (s.extract 0 k), .string (s.extract (k + 1) s.size), .bool true]) ∧ Below w.heap.size w w' := by
  have c : Calls Tryz.prog 97 #[.string s, .string ⟨#[47]⟩] w fun e w' => e = .returned (.tuple #[.string (s.extract 0 k), .string (s.extract (k + 1) s.size), .bool true]) ∧ Below w.heap.size w w' := by
    have ix := Any.stringslite_Index_one layIx s 47 w
    rw [h.idx] at ix
    have hlen := h.lt
    clear h
    have k1 : IntKind.i64.wrap ((k : Int) + 1) = (k : Int) + 1 := IntWalk.i64_in _ (by omega)
    have k2 : (0 : Int) ≤ (k : Int) + 1 := by omega
    have k3 : ((k : Int) + 1).toNat = k + 1 := by omega
    have k4 : (k : Int) ≤ (s.size : Int) := by omega
    have k5 : (k : Int) + 1 ≤ (s.size : Int) := by omega
    go_enter Tryz.func97, Tryz.ntmps97
    go_wp2_with (go_at_call 124; refine ix.mono ?_; rintro e w' ⟨rfl, rfl⟩)
    go_quiet (fail)
    go_wp2
    go_ret3
    exact ⟨rfl, below_drewN (Below.refl _ _) _⟩
  generalize s.extract 0 k = P at *
  generalize s.extract (k + 1) s.size = T at *
  clear h hs
  go_enter Tryz.func60, Tryz.ntmps60
  go_wp2_with (go_at_call 97; refine c.mono ?_; rintro e w' ⟨rfl, hb⟩)
  go_ret3
  exact ⟨rfl, hb⟩
set_option maxRecDepth 100000 in
theorem cutS_miss (s : ByteArray) (w : World) (h : (47 : UInt8) ∉ s.data.toList) :
    Calls Tryz.prog 60 #[.string s, .string ⟨#[47]⟩] w fun e w' => e = .returned (.tuple #[.string s, .string ⟨#[]⟩, .bool false]) ∧ Below w.heap.size w w' := by
  have c : Calls Tryz.prog 97 #[.string s, .string ⟨#[47]⟩] w fun e w' => e = .returned (.tuple #[.string s, .string ⟨#[]⟩, .bool false]) ∧ Below w.heap.size w w' := by
    have ix := Any.stringslite_Index_one layIx s 47 w
    rw [idxS_miss 47 _ h] at ix
    go_enter Tryz.func97, Tryz.ntmps97
    go_wp2_with (go_at_call 124; refine ix.mono ?_; rintro e w' ⟨rfl, rfl⟩)
    go_ret3
    exact ⟨rfl, Below.refl _ _⟩
  clear h
  go_enter Tryz.func60, Tryz.ntmps60
  go_wp2_with (go_at_call 97; refine c.mono ?_; rintro e w' ⟨rfl, hb⟩)
  go_ret3
  exact ⟨rfl, hb⟩
theorem pref_any (a : ByteArray) (w : World) : Calls Tryz.prog 62 #[.string a, .string ⟨#[80]⟩] w fun e w' => e = .returned (.bool (hasP a)) ∧ w' = w := by
  refine (Any.strings_HasPrefix layHP a ⟨#[80]⟩ w).mono ?_
  rintro e w' ⟨rfl, rfl⟩
  refine ⟨?_, rfl⟩
  unfold hasP isB Lib.hasPrefix
  cases h : a.data.toList with
  | nil => rfl
  | cons x l => simp [List.isPrefixOf]; rw [Bool.beq_comm]
/-- How the walk stands: the first part's cell. -/
def StA (w : World) (ba : Nat) (a : ByteArray) (x : World) : Prop := Below w.heap.size w x ∧ w.heap.size ≤ ba ∧ ba < x.heap.size ∧ x.cell? ⟨ba, 0, none⟩ = some (.string a)
theorem StA.call {w : World} {ba : Nat} {a : ByteArray} {x x' : World} (h : StA w ba a x) (hb : Below x.heap.size x x') : StA w ba a x' :=
  ⟨thenB h.1 hb, h.2.1, Nat.lt_of_lt_of_le h.2.2.1 hb.size, (hb.cell (p := ⟨ba, 0, none⟩) h.2.2.1).trans h.2.2.2⟩
theorem StA.alloc {w : World} {ba : Nat} {a : ByteArray} {x : World} (h : StA w ba a x) (o : Obj) : StA w ba a (x.alloc o) := h.call ((Below.refl _ _).alloc (Nat.le_refl _) o)
theorem StA.new {w x : World} (hb : Below w.heap.size w x) (a : ByteArray) (t : TypeId) : StA w x.heap.size a (x.alloc (.cells #[.string a] t)) :=
  ⟨hb.alloc hb.size _, hb.size, by simp, by simp⟩
theorem StA.below {w : World} {ba : Nat} {a : ByteArray} {x : World} (h : StA w ba a x) : Below w.heap.size w x := h.1
theorem StA.cell {w : World} {ba : Nat} {a : ByteArray} {x : World} (h : StA w ba a x) : x.cell? ⟨ba, 0, none⟩ = some (.string a) := h.2.2.2
theorem Five.box (w : World) (v0 v1 v2 v3 v4 : Int) (t : TypeId) (v : Nat → Int) (h0 : v 0 = v0) (h1 : v 1 = v1) (h2 : v 2 = v2) (h3 : v 3 = v3) (h4 : v 4 = v4) : Five w.heap.size v (w.alloc (.cells #[.int .i64 v0, .int .i64 v1, .int .i64 v2, .int .i64 v3, .int .i64 v4] t)) := by
  subst h0 h1 h2 h3 h4
  refine ⟨by simp, fun i hi => ?_⟩
  match i, hi with
  | 0, _ => exact ⟨by simp, by simp⟩
  | 1, _ => exact ⟨by simp, by simp⟩
  | 2, _ => exact ⟨by simp, by simp⟩
  | 3, _ => exact ⟨by simp, by simp⟩
  | 4, _ => exact ⟨by simp, by simp⟩
/-- What ParseSpan answers. -/
def SpPost (s : ByteArray) (w : World) (e : Ending) (w' : World) : Prop := ∃ P v, SpR s P ∧ e = .returned (.tuple #[.int .i64 P.from_, .int .i64 P.to_, v]) ∧ ErrJ w.heap.size P.err P.place v w' ∧ Below w.heap.size w w'
theorem SpPost.fin {s : ByteArray} {w : World} {e : Ending} {w' : World} (P : SpP) (v : Value) (h1 : SpR s P) (h2 : e = .returned (.tuple #[.int .i64 P.from_, .int .i64 P.to_, v])) (h3 : ErrJ w.heap.size P.err P.place v w') (h4 : Below w.heap.size w w') : SpPost s w e w' := ⟨P, v, h1, h2, h3, h4⟩
set_option maxRecDepth 100000 in
set_option maxHeartbeats 2000000 in
theorem cspan_no (s : ByteArray) (w : World) (h : (47 : UInt8) ∉ s.data.toList) : Calls Tryz.prog 35 #[.string s] w (SpPost s w) := by
  have CU := Lib.hid (cutS_miss s w h)
  have HR : Hid (SpR s ⟨0, 0, 5, (s.size : Int)⟩) := Lib.hid (.inl ⟨h, rfl⟩)
  clear h
  go_enter Tryz.func35, Tryz.ntmps35
  go_wp2_with (go_at_call 60; (with_reducible refine CU.out.mono ?_); rintro e w1 ⟨rfl, hb1⟩; have HB1 := Lib.hid hb1; have HX := Lib.hid (AtBox.new (w1.alloc (.cells #[.string s] 9)) 5 (s.size : Int)); clear hb1)
  go_ret3
  have hX := HX.out
  rw [World.size_alloc] at hX
  exact SpPost.fin _ _ HR.out rfl (.inr (.inr ⟨five_ne, hX.mono (Nat.le_trans HB1.out.size (Nat.le_succ _))⟩)) ((HB1.out.alloc HB1.out.size _).alloc (by have := HB1.out.size; simp; omega) _)
set_option maxRecDepth 100000 in
set_option maxHeartbeats 8000000 in
theorem cspan_p1 (s : ByteArray) (k : Nat) (a b : ByteArray) (w : World) (hT : ErrT w) (hr : RomanT w) (hs : s.size ≤ 9223372036854775807) (hk : CutAt s k) (hea : s.extract 0 k = a) (heb : s.extract (k + 1) s.size = b) (hz : a.size = k)
    (ha : hasP a = true) (hpe : (perF a.data.toList).err ≠ 0) :
    Calls Tryz.prog 35 #[.string s] w (SpPost s w) := by
  have hsa : a.size ≤ 9223372036854775807 := by rw [← hea, ByteArray.size_extract]; omega
  have hsb : b.size ≤ 9223372036854775807 := by rw [← heb, ByteArray.size_extract]; omega
  have CU : Hid (Calls Tryz.prog 60 #[.string s, .string ⟨#[47]⟩] w fun e w' => e = .returned (.tuple #[.string a, .string b, .bool true]) ∧ Below w.heap.size w w') := Lib.hid (by have q := cutS_hit s k w hk hs; rw [hea, heb] at q; exact q)
  have HS : Hid (∀ P, SpRk a b k P → SpR s P) := Lib.hid fun P h => .inr ⟨k, hk, by rw [hea, heb]; exact h⟩
  have HT := Lib.hid hT; have HRM := Lib.hid hr; have HZ := Lib.hid hz
  clear hk hea heb hT hr hz
  have CHa : Hid (∀ w0, Calls Tryz.prog 62 #[.string a, .string ⟨#[80]⟩] w0 fun e w' => e = .returned (.bool true) ∧ w0 = w') := Lib.hid fun w0 => (pref_any a w0).mono fun e w' ⟨h1, h2⟩ => ⟨by rw [h1, ha], h2.symm⟩
  have CPa : Hid (∀ w0, Calls Tryz.prog 40 #[.string a] w0 fun e w' => ∃ p : Nat, e = .returned (.tuple #[.agg #[.int .i64 0, .int .i64 0, .int .i64 0, .int .i64 0, .int .i64 0], .iface 105 (.pointer (some ⟨p, 0, none⟩))]) ∧ AtBox w0.heap.size (perF a.data.toList).err (perF a.data.toList).place (.iface 105 (.pointer (some ⟨p, 0, none⟩))) w' ∧ Below w0.heap.size w0 w') := Lib.hid fun w0 => (cparseP_any a w0 hsa).mono fun e w' ⟨hb, h⟩ => by
    rcases h with ⟨h, -⟩ | ⟨-, v, h1, h2⟩
    · exact absurd h hpe
    · have h3 := h2; obtain ⟨p, rfl, -⟩ := h2; exact ⟨p, h1, h3, hb⟩
  have HP : Hid (SpRk a b k ⟨0, 0, (perF a.data.toList).err, (perF a.data.toList).place⟩) := Lib.hid (by unfold SpRk; rw [if_pos ha, if_pos hpe])
  have HE := Lib.hid hpe; clear ha hpe
  go_enter Tryz.func35, Tryz.ntmps35
  go_wp2_with (first
    | (go_at_call 60; (with_reducible refine CU.out.mono ?_); rintro e w1 ⟨rfl, hb1⟩; have H1 := Lib.hid (StA.new hb1 a 9); have z1 := StA.cell H1.out; clear hb1)
    | (go_at_call 62; (with_reducible refine (CHa.out _).mono ?_); rintro e wq ⟨rfl, rfl⟩)
    | (go_at_call 40; (with_reducible refine (CPa.out _).mono ?_); rintro e w2 ⟨p, rfl, hX, hbz⟩; have H2 := Lib.hid (StA.call H1.out hbz); have z2 := StA.cell H2.out; have HX := Lib.hid hX; clear hX; clear hbz))
  go_ret3
  exact SpPost.fin _ _ (HS.out _ HP.out) rfl (.inr (.inr ⟨HE.out, (HX.out.call ((Below.refl _ _).alloc (Nat.le_refl _) _)).mono (StA.below H1.out).size⟩)) (StA.alloc H2.out _).1
set_option maxRecDepth 100000 in
set_option maxHeartbeats 8000000 in
theorem cspan_p2 (s : ByteArray) (k : Nat) (a b : ByteArray) (w : World) (hT : ErrT w) (hr : RomanT w) (hs : s.size ≤ 9223372036854775807) (hk : CutAt s k) (hea : s.extract 0 k = a) (heb : s.extract (k + 1) s.size = b) (hz : a.size = k)
    (ha : hasP a = true) (hpe : (perF a.data.toList).err = 0) (hbe : (ptP b).err ≠ 0) :
    Calls Tryz.prog 35 #[.string s] w (SpPost s w) := by
  have hsa : a.size ≤ 9223372036854775807 := by rw [← hea, ByteArray.size_extract]; omega
  have hsb : b.size ≤ 9223372036854775807 := by rw [← heb, ByteArray.size_extract]; omega
  have CU : Hid (Calls Tryz.prog 60 #[.string s, .string ⟨#[47]⟩] w fun e w' => e = .returned (.tuple #[.string a, .string b, .bool true]) ∧ Below w.heap.size w w') := Lib.hid (by have q := cutS_hit s k w hk hs; rw [hea, heb] at q; exact q)
  have HS : Hid (∀ P, SpRk a b k P → SpR s P) := Lib.hid fun P h => .inr ⟨k, hk, by rw [hea, heb]; exact h⟩
  have HT := Lib.hid hT; have HRM := Lib.hid hr; have HZ := Lib.hid hz
  clear hk hea heb hT hr hz
  obtain ⟨v0, hv0⟩ : ∃ q, (perF a.data.toList).v 0 = q := ⟨_, rfl⟩; have b0 := perF_bd a.data.toList 0; rw [hv0] at b0; obtain ⟨l0, u0⟩ := b0
  obtain ⟨v1, hv1⟩ : ∃ q, (perF a.data.toList).v 1 = q := ⟨_, rfl⟩; have b1 := perF_bd a.data.toList 1; rw [hv1] at b1; obtain ⟨l1, u1⟩ := b1
  obtain ⟨v2, hv2⟩ : ∃ q, (perF a.data.toList).v 2 = q := ⟨_, rfl⟩; have b2 := perF_bd a.data.toList 2; rw [hv2] at b2; obtain ⟨l2, u2⟩ := b2
  obtain ⟨v3, hv3⟩ : ∃ q, (perF a.data.toList).v 3 = q := ⟨_, rfl⟩; have b3 := perF_bd a.data.toList 3; rw [hv3] at b3; obtain ⟨l3, u3⟩ := b3
  obtain ⟨v4, hv4⟩ : ∃ q, (perF a.data.toList).v 4 = q := ⟨_, rfl⟩; have b4 := perF_bd a.data.toList 4; rw [hv4] at b4; obtain ⟨l4, u4⟩ := b4
  have CHa : Hid (∀ w0, Calls Tryz.prog 62 #[.string a, .string ⟨#[80]⟩] w0 fun e w' => e = .returned (.bool true) ∧ w0 = w') := Lib.hid fun w0 => (pref_any a w0).mono fun e w' ⟨h1, h2⟩ => ⟨by rw [h1, ha], h2.symm⟩
  have CPa : Hid (∀ w0, Calls Tryz.prog 40 #[.string a] w0 fun e w' => e = .returned (.tuple #[.agg #[.int .i64 v0, .int .i64 v1, .int .i64 v2, .int .i64 v3, .int .i64 v4], .nilIface]) ∧ Below w0.heap.size w0 w') := Lib.hid fun w0 => (cparseP_any a w0 hsa).mono fun e w' ⟨hb, h⟩ => by
    rcases h with ⟨-, h⟩ | ⟨h, -⟩
    · unfold agg5 at h; rw [hv0, hv1, hv2, hv3, hv4] at h; exact ⟨h, hb⟩
    · exact absurd hpe h
  have CTb : Hid (∀ w0, Below w.heap.size w w0 → Calls Tryz.prog 63 #[.string b] w0 fun e w' => ∃ q v, e = .returned (.tuple #[.int .i64 q, v]) ∧ (v = .iface 25 (.int .i64 (ptP b).err) ∨ ∃ p : Nat, v = .iface 105 (.pointer (some ⟨p, 0, none⟩))) ∧ ErrIs w0.heap.size (ptP b).err (ptP b).place v w' ∧ Below w0.heap.size w0 w') := Lib.hid fun w0 h0 => (cpt_any b w0 (HRM.out.call h0) hsb).mono fun e w' ⟨v, h1, h2, h3⟩ => by
    exact ⟨_, v, h1, (h2.ne hbe).imp (fun h => h.1) (fun ⟨p, h, _⟩ => ⟨p, h⟩), h2, h3⟩
  have HP : Hid (SpRk a b k ⟨0, 0, (ptP b).err, latE k (ptP b).place⟩) := Lib.hid (by unfold SpRk; rw [if_pos ha, if_neg (fun h => h hpe), if_pos hbe])
  have CL : Hid (∀ (x : World) (v : Value) (ba B : Nat), StA w ba a x → ErrIs B (ptP b).err (ptP b).place v x → B ≤ x.heap.size → Calls Tryz.prog 61 #[v, .pointer (some ⟨ba, 0, none⟩)] x fun e w' => ∃ v', e = .returned v' ∧ ErrJ B (ptP b).err (latE k (ptP b).place) v' w' ∧ Below x.heap.size x w') := Lib.hid fun x v ba B h1 h2 h3 => by
    have q := later_any (B := B) a ba x (HT.out.call h1.1) h2 hbe h3 h1.2.2.2
    rw [HZ.out] at q; exact q
  clear hv0 hv1 hv2 hv3 hv4 ha hpe hbe
  go_enter Tryz.func35, Tryz.ntmps35
  go_wp2_with (first
    | (go_at_call 60; (with_reducible refine CU.out.mono ?_); rintro e w1 ⟨rfl, hb1⟩; have H1 := Lib.hid (StA.new hb1 a 9); have z1 := StA.cell H1.out; clear hb1)
    | (go_at_call 62; (with_reducible refine (CHa.out _).mono ?_); rintro e wq ⟨rfl, rfl⟩)
    | (go_at_call 40; (with_reducible refine (CPa.out _).mono ?_); rintro e w2 ⟨rfl, hbz⟩; have H2 := Lib.hid (StA.call H1.out hbz); have z2 := StA.cell H2.out; have H2b := Lib.hid (StA.alloc H2.out (.cells #[.int .i64 v0, .int .i64 v1, .int .i64 v2, .int .i64 v3, .int .i64 v4] 43)); have z2b := StA.cell H2b.out; clear hbz)
    | (go_at_call 63; (with_reducible refine (CTb.out _ (StA.below H2b.out)).mono ?_); rintro e w3 ⟨q, v, rfl, (rfl | ⟨p, rfl⟩), hX, hbz⟩ <;> (have H3 := Lib.hid (StA.call H2b.out hbz); have z3 := StA.cell H3.out; have HX := Lib.hid hX; have H3s := Lib.hid hbz.size; clear hX hbz))
    | (go_at_call 61; (with_reducible refine (CL.out _ _ _ _ H3.out HX.out H3s.out).mono ?_); rintro e w4 ⟨v2, rfl, hX, hbz⟩; have H4 := Lib.hid (StA.call H3.out hbz); have HX4 := Lib.hid hX; clear hX hbz))
  all_goals
    go_ret3
    exact SpPost.fin _ _ (HS.out _ HP.out) rfl (HX4.out.mono (StA.below H2b.out).size) H4.out.1
set_option maxRecDepth 100000 in
set_option maxHeartbeats 8000000 in
theorem cspan_p3 (s : ByteArray) (k : Nat) (a b : ByteArray) (w : World) (hT : ErrT w) (hr : RomanT w) (hs : s.size ≤ 9223372036854775807) (hk : CutAt s k) (hea : s.extract 0 k = a) (heb : s.extract (k + 1) s.size = b) (hz : a.size = k)
    (ha : hasP a = true) (hpe : (perF a.data.toList).err = 0) (hbe : (ptP b).err = 0) :
    Calls Tryz.prog 35 #[.string s] w (SpPost s w) := by
  have hsa : a.size ≤ 9223372036854775807 := by rw [← hea, ByteArray.size_extract]; omega
  have hsb : b.size ≤ 9223372036854775807 := by rw [← heb, ByteArray.size_extract]; omega
  have CU : Hid (Calls Tryz.prog 60 #[.string s, .string ⟨#[47]⟩] w fun e w' => e = .returned (.tuple #[.string a, .string b, .bool true]) ∧ Below w.heap.size w w') := Lib.hid (by have q := cutS_hit s k w hk hs; rw [hea, heb] at q; exact q)
  have HS : Hid (∀ P, SpRk a b k P → SpR s P) := Lib.hid fun P h => .inr ⟨k, hk, by rw [hea, heb]; exact h⟩
  have HT := Lib.hid hT; have HRM := Lib.hid hr; have HZ := Lib.hid hz
  clear hk hea heb hT hr hz
  obtain ⟨v0, hv0⟩ : ∃ q, (perF a.data.toList).v 0 = q := ⟨_, rfl⟩; have b0 := perF_bd a.data.toList 0; rw [hv0] at b0; obtain ⟨l0, u0⟩ := b0
  obtain ⟨v1, hv1⟩ : ∃ q, (perF a.data.toList).v 1 = q := ⟨_, rfl⟩; have b1 := perF_bd a.data.toList 1; rw [hv1] at b1; obtain ⟨l1, u1⟩ := b1
  obtain ⟨v2, hv2⟩ : ∃ q, (perF a.data.toList).v 2 = q := ⟨_, rfl⟩; have b2 := perF_bd a.data.toList 2; rw [hv2] at b2; obtain ⟨l2, u2⟩ := b2
  obtain ⟨v3, hv3⟩ : ∃ q, (perF a.data.toList).v 3 = q := ⟨_, rfl⟩; have b3 := perF_bd a.data.toList 3; rw [hv3] at b3; obtain ⟨l3, u3⟩ := b3
  obtain ⟨v4, hv4⟩ : ∃ q, (perF a.data.toList).v 4 = q := ⟨_, rfl⟩; have b4 := perF_bd a.data.toList 4; rw [hv4] at b4; obtain ⟨l4, u4⟩ := b4
  obtain ⟨Tb, hTb⟩ : ∃ q, (ptP b).loc = q := ⟨_, rfl⟩
  have CHa : Hid (∀ w0, Calls Tryz.prog 62 #[.string a, .string ⟨#[80]⟩] w0 fun e w' => e = .returned (.bool true) ∧ w0 = w') := Lib.hid fun w0 => (pref_any a w0).mono fun e w' ⟨h1, h2⟩ => ⟨by rw [h1, ha], h2.symm⟩
  have CPa : Hid (∀ w0, Calls Tryz.prog 40 #[.string a] w0 fun e w' => e = .returned (.tuple #[.agg #[.int .i64 v0, .int .i64 v1, .int .i64 v2, .int .i64 v3, .int .i64 v4], .nilIface]) ∧ Below w0.heap.size w0 w') := Lib.hid fun w0 => (cparseP_any a w0 hsa).mono fun e w' ⟨hb, h⟩ => by
    rcases h with ⟨-, h⟩ | ⟨h, -⟩
    · unfold agg5 at h; rw [hv0, hv1, hv2, hv3, hv4] at h; exact ⟨h, hb⟩
    · exact absurd hpe h
  have CTb : Hid (∀ w0, Below w.heap.size w w0 → Calls Tryz.prog 63 #[.string b] w0 fun e w' => e = .returned (.tuple #[.int .i64 Tb, .nilIface]) ∧ Below w0.heap.size w0 w') := Lib.hid fun w0 h0 => (cpt_any b w0 (HRM.out.call h0) hsb).mono fun e w' ⟨v, h1, h2, h3⟩ => by obtain ⟨rfl, _⟩ := h2.nil hbe; rw [hTb] at h1; exact ⟨h1, h3⟩
  have CA : Hid (∀ w0, Below w.heap.size w w0 → Calls Tryz.prog 64 #[.int .i64 Tb, .agg #[.int .i64 (-v0), .int .i64 (-v1), .int .i64 (-v2), .int .i64 (-v3), .int .i64 (-v4)]] w0 fun e w' => ∃ r x, (e = .returned (.tuple #[.int .i64 r, errV x]) ∧ AddR Tb (-v0) (-v1) (-v2) (-v3) (-v4) r x) ∧ Below w0.heap.size w0 w') := Lib.hid fun w0 h0 => (add_all Tb (-v0) (-v1) (-v2) (-v3) (-v4) w0 (HRM.out.call h0)).mono fun e w' ⟨r, x, h1, h2, h3⟩ => ⟨r, x, ⟨h1, h2⟩, h3⟩
  have HP : Hid (∀ r x, AddR Tb (-v0) (-v1) (-v2) (-v3) (-v4) r x → SpRk a b k (endS r Tb x)) := Lib.hid fun r x h => by
    unfold SpRk; rw [if_pos ha, if_neg (fun h => h hpe), if_neg (fun h => h hbe), hv0, hv1, hv2, hv3, hv4, hTb]; exact ⟨r, x, h, rfl⟩
  clear hv0 hv1 hv2 hv3 hv4 ha hpe hTb hbe
  go_enter Tryz.func35, Tryz.ntmps35
  go_wp2_with (first
    | (go_at_call 60; (with_reducible refine CU.out.mono ?_); rintro e w1 ⟨rfl, hb1⟩; have H1 := Lib.hid (StA.new hb1 a 9); have z1 := StA.cell H1.out; clear hb1)
    | (go_at_call 62; (with_reducible refine (CHa.out _).mono ?_); rintro e wq ⟨rfl, rfl⟩)
    | (go_at_call 40; (with_reducible refine (CPa.out _).mono ?_); rintro e w2 ⟨rfl, hbz⟩; have H2 := Lib.hid (StA.call H1.out hbz); have z2 := StA.cell H2.out; have H2b := Lib.hid (StA.alloc H2.out (.cells #[.int .i64 v0, .int .i64 v1, .int .i64 v2, .int .i64 v3, .int .i64 v4] 43)); have z2b := StA.cell H2b.out; have H2f := Lib.hid (Five.box w2 v0 v1 v2 v3 v4 43 (fun i => match i with | 0 => v0 | 1 => v1 | 2 => v2 | 3 => v3 | _ => v4) rfl rfl rfl rfl rfl); clear hbz)
    | (go_at_call 63; (with_reducible refine (CTb.out _ (StA.below H2b.out)).mono ?_); rintro e w3 ⟨rfl, hbz⟩; have H3 := Lib.hid (StA.call H2b.out hbz); have z3 := StA.cell H3.out; have H5 := H2f.out.call hbz; obtain ⟨hl5, hc5⟩ := H5; have r0 := (hc5 0 (by omega)).1; have r1 := (hc5 1 (by omega)).1; have r2 := (hc5 2 (by omega)).1; have r3 := (hc5 3 (by omega)).1; have r4 := (hc5 4 (by omega)).1; clear hbz))
  (go_at_call 64; (with_reducible refine (CA.out _ (StA.below H3.out)).mono ?_); rintro e w5 ⟨r, x, ⟨rfl, hR⟩, hbz⟩; have H5w := Lib.hid (StA.call H3.out hbz); have HPR := Lib.hid (HP.out _ _ hR); clear hR hbz)
  by_cases hx : x = 0
  · subst hx
    rw [show errV 0 = Value.nilIface from rfl]
    by_cases ho : Tb < r
    · have HO : Hid (SpRk a b k ⟨0, 0, 7, -1⟩) := Lib.hid (by have q := HPR.out; rw [endS_order ho] at q; exact q)
      have hod : decide (Tb < r) = true := decide_eq_true ho; clear ho
      go_wp2_with fail
      go_ret3
      exact SpPost.fin _ _ (HS.out _ HO.out) rfl (.inr (.inl ⟨by show (7 : Int) ≠ 0; decide, rfl, rfl⟩)) H5w.out.1
    · have HO : Hid (SpRk a b k ⟨r, Tb, 0, -1⟩) := Lib.hid (by have q := HPR.out; rw [endS_ok ho] at q; exact q)
      have hod : decide (Tb < r) = false := decide_eq_false ho; clear ho
      go_wp2_with fail
      go_ret3
      exact SpPost.fin _ _ (HS.out _ HO.out) rfl (.inl ⟨rfl, rfl, rfl⟩) H5w.out.1
  · have HO : Hid (SpRk a b k ⟨0, 0, x, -1⟩) := Lib.hid (by have q := HPR.out; rw [endS_err hx] at q; exact q)
    rw [errV_hit hx]; have HXN := Lib.hid hx; clear hx
    go_wp2_with fail
    go_ret3
    exact SpPost.fin _ _ (HS.out _ HO.out) rfl (.inr (.inl ⟨HXN.out, rfl, rfl⟩)) H5w.out.1
set_option maxRecDepth 100000 in
set_option maxHeartbeats 8000000 in
theorem cspan_q1 (s : ByteArray) (k : Nat) (a b : ByteArray) (w : World) (hT : ErrT w) (hr : RomanT w) (hs : s.size ≤ 9223372036854775807) (hk : CutAt s k) (hea : s.extract 0 k = a) (heb : s.extract (k + 1) s.size = b) (hz : a.size = k)
    (ha : hasP a = false) (hb : hasP b = true) (hae : (ptP a).err ≠ 0) :
    Calls Tryz.prog 35 #[.string s] w (SpPost s w) := by
  have hsa : a.size ≤ 9223372036854775807 := by rw [← hea, ByteArray.size_extract]; omega
  have hsb : b.size ≤ 9223372036854775807 := by rw [← heb, ByteArray.size_extract]; omega
  have CU : Hid (Calls Tryz.prog 60 #[.string s, .string ⟨#[47]⟩] w fun e w' => e = .returned (.tuple #[.string a, .string b, .bool true]) ∧ Below w.heap.size w w') := Lib.hid (by have q := cutS_hit s k w hk hs; rw [hea, heb] at q; exact q)
  have HS : Hid (∀ P, SpRk a b k P → SpR s P) := Lib.hid fun P h => .inr ⟨k, hk, by rw [hea, heb]; exact h⟩
  have HT := Lib.hid hT; have HRM := Lib.hid hr; have HZ := Lib.hid hz
  clear hk hea heb hT hr hz
  have CHa : Hid (∀ w0, Calls Tryz.prog 62 #[.string a, .string ⟨#[80]⟩] w0 fun e w' => e = .returned (.bool false) ∧ w0 = w') := Lib.hid fun w0 => (pref_any a w0).mono fun e w' ⟨h1, h2⟩ => ⟨by rw [h1, ha], h2.symm⟩
  have CHb : Hid (∀ w0, Calls Tryz.prog 62 #[.string b, .string ⟨#[80]⟩] w0 fun e w' => e = .returned (.bool true) ∧ w0 = w') := Lib.hid fun w0 => (pref_any b w0).mono fun e w' ⟨h1, h2⟩ => ⟨by rw [h1, hb], h2.symm⟩
  have CTa : Hid (∀ w0, Below w.heap.size w w0 → Calls Tryz.prog 63 #[.string a] w0 fun e w' => ∃ q v, e = .returned (.tuple #[.int .i64 q, v]) ∧ (v = .iface 25 (.int .i64 (ptP a).err) ∨ ∃ p : Nat, v = .iface 105 (.pointer (some ⟨p, 0, none⟩))) ∧ ErrIs w0.heap.size (ptP a).err (ptP a).place v w' ∧ Below w0.heap.size w0 w') := Lib.hid fun w0 h0 => (cpt_any a w0 (HRM.out.call h0) hsa).mono fun e w' ⟨v, h1, h2, h3⟩ => by
    exact ⟨_, v, h1, (h2.ne hae).imp (fun h => h.1) (fun ⟨p, h, _⟩ => ⟨p, h⟩), h2, h3⟩
  have HP : Hid (SpRk a b k ⟨0, 0, (ptP a).err, (ptP a).place⟩) := Lib.hid (by unfold SpRk; rw [if_neg (by rw [ha]; decide), if_pos hb, if_pos hae])
  clear ha hb hae
  go_enter Tryz.func35, Tryz.ntmps35
  go_wp2_with (first
    | (go_at_call 60; (with_reducible refine CU.out.mono ?_); rintro e w1 ⟨rfl, hb1⟩; have H1 := Lib.hid (StA.new hb1 a 9); have z1 := StA.cell H1.out; clear hb1)
    | (go_at_call 62; (with_reducible refine (CHa.out _).mono ?_); rintro e wq ⟨rfl, rfl⟩)
    | (go_at_call 62; (with_reducible refine (CHb.out _).mono ?_); rintro e wq ⟨rfl, rfl⟩)
    | (go_at_call 63; (with_reducible refine (CTa.out _ (StA.below H1.out)).mono ?_); rintro e w3 ⟨q, v, rfl, (rfl | ⟨p, rfl⟩), hX, hbz⟩ <;> (have H3 := Lib.hid (StA.call H1.out hbz); have z3 := StA.cell H3.out; have HX := Lib.hid hX; clear hX hbz)))
  all_goals
    go_ret3
    exact SpPost.fin _ _ (HS.out _ HP.out) rfl (HX.out.j.mono (StA.below H1.out).size) H3.out.1
set_option maxRecDepth 100000 in
set_option maxHeartbeats 8000000 in
theorem cspan_q2 (s : ByteArray) (k : Nat) (a b : ByteArray) (w : World) (hT : ErrT w) (hr : RomanT w) (hs : s.size ≤ 9223372036854775807) (hk : CutAt s k) (hea : s.extract 0 k = a) (heb : s.extract (k + 1) s.size = b) (hz : a.size = k)
    (ha : hasP a = false) (hb : hasP b = true) (hae : (ptP a).err = 0) (hpe : (perF b.data.toList).err ≠ 0) :
    Calls Tryz.prog 35 #[.string s] w (SpPost s w) := by
  have hsa : a.size ≤ 9223372036854775807 := by rw [← hea, ByteArray.size_extract]; omega
  have hsb : b.size ≤ 9223372036854775807 := by rw [← heb, ByteArray.size_extract]; omega
  have CU : Hid (Calls Tryz.prog 60 #[.string s, .string ⟨#[47]⟩] w fun e w' => e = .returned (.tuple #[.string a, .string b, .bool true]) ∧ Below w.heap.size w w') := Lib.hid (by have q := cutS_hit s k w hk hs; rw [hea, heb] at q; exact q)
  have HS : Hid (∀ P, SpRk a b k P → SpR s P) := Lib.hid fun P h => .inr ⟨k, hk, by rw [hea, heb]; exact h⟩
  have HT := Lib.hid hT; have HRM := Lib.hid hr; have HZ := Lib.hid hz
  clear hk hea heb hT hr hz
  obtain ⟨Ta, hTa⟩ : ∃ q, (ptP a).loc = q := ⟨_, rfl⟩
  have CHa : Hid (∀ w0, Calls Tryz.prog 62 #[.string a, .string ⟨#[80]⟩] w0 fun e w' => e = .returned (.bool false) ∧ w0 = w') := Lib.hid fun w0 => (pref_any a w0).mono fun e w' ⟨h1, h2⟩ => ⟨by rw [h1, ha], h2.symm⟩
  have CHb : Hid (∀ w0, Calls Tryz.prog 62 #[.string b, .string ⟨#[80]⟩] w0 fun e w' => e = .returned (.bool true) ∧ w0 = w') := Lib.hid fun w0 => (pref_any b w0).mono fun e w' ⟨h1, h2⟩ => ⟨by rw [h1, hb], h2.symm⟩
  have CTa : Hid (∀ w0, Below w.heap.size w w0 → Calls Tryz.prog 63 #[.string a] w0 fun e w' => e = .returned (.tuple #[.int .i64 Ta, .nilIface]) ∧ Below w0.heap.size w0 w') := Lib.hid fun w0 h0 => (cpt_any a w0 (HRM.out.call h0) hsa).mono fun e w' ⟨v, h1, h2, h3⟩ => by obtain ⟨rfl, _⟩ := h2.nil hae; rw [hTa] at h1; exact ⟨h1, h3⟩
  have CPb : Hid (∀ w0, Calls Tryz.prog 40 #[.string b] w0 fun e w' => ∃ p : Nat, e = .returned (.tuple #[.agg #[.int .i64 0, .int .i64 0, .int .i64 0, .int .i64 0, .int .i64 0], .iface 105 (.pointer (some ⟨p, 0, none⟩))]) ∧ AtBox w0.heap.size (perF b.data.toList).err (perF b.data.toList).place (.iface 105 (.pointer (some ⟨p, 0, none⟩))) w' ∧ Below w0.heap.size w0 w') := Lib.hid fun w0 => (cparseP_any b w0 hsb).mono fun e w' ⟨hb, h⟩ => by
    rcases h with ⟨h, -⟩ | ⟨-, v, h1, h2⟩
    · exact absurd h hpe
    · have h3 := h2; obtain ⟨p, rfl, -⟩ := h2; exact ⟨p, h1, h3, hb⟩
  have HP : Hid (SpRk a b k ⟨0, 0, (perF b.data.toList).err, latE k (perF b.data.toList).place⟩) := Lib.hid (by unfold SpRk; rw [if_neg (by rw [ha]; decide), if_pos hb, if_neg (fun h => h hae), if_pos hpe])
  have HPL := Lib.hid (perF_pl b.data.toList hpe); have HPE := Lib.hid hpe
  have CL : Hid (∀ (x : World) (v : Value) (ba B : Nat), StA w ba a x → ErrIs B (perF b.data.toList).err (perF b.data.toList).place v x → B ≤ x.heap.size → Calls Tryz.prog 61 #[v, .pointer (some ⟨ba, 0, none⟩)] x fun e w' => ∃ v', e = .returned v' ∧ ErrJ B (perF b.data.toList).err (latE k (perF b.data.toList).place) v' w' ∧ Below x.heap.size x w') := Lib.hid fun x v ba B h1 h2 h3 => by
    have q := later_any (B := B) a ba x (HT.out.call h1.1) h2 hpe h3 h1.2.2.2
    rw [HZ.out] at q; exact q
  clear ha hb hae hpe hTa
  go_enter Tryz.func35, Tryz.ntmps35
  go_wp2_with (first
    | (go_at_call 60; (with_reducible refine CU.out.mono ?_); rintro e w1 ⟨rfl, hb1⟩; have H1 := Lib.hid (StA.new hb1 a 9); have z1 := StA.cell H1.out; clear hb1)
    | (go_at_call 62; (with_reducible refine (CHa.out _).mono ?_); rintro e wq ⟨rfl, rfl⟩)
    | (go_at_call 62; (with_reducible refine (CHb.out _).mono ?_); rintro e wq ⟨rfl, rfl⟩)
    | (go_at_call 63; (with_reducible refine (CTa.out _ (StA.below H1.out)).mono ?_); rintro e w2 ⟨rfl, hbz⟩; have H2 := Lib.hid (StA.call H1.out hbz); have z2 := StA.cell H2.out; clear hbz)
    | (go_at_call 40; (with_reducible refine (CPb.out _).mono ?_); rintro e w3 ⟨p, rfl, hX, hbz⟩; have H3 := Lib.hid (StA.call H2.out hbz); have z3 := StA.cell H3.out; have H3b := Lib.hid (StA.alloc H3.out (.cells #[.int .i64 0, .int .i64 0, .int .i64 0, .int .i64 0, .int .i64 0] 43)); have z3b := StA.cell H3b.out; have HX := Lib.hid (show ErrIs w2.heap.size _ _ _ _ from .inr (.inr ⟨HPE.out, HPL.out, hX.call ((Below.refl _ _).alloc (Nat.le_refl _) (.cells #[.int .i64 0, .int .i64 0, .int .i64 0, .int .i64 0, .int .i64 0] 43))⟩)); have HZ3 := Lib.hid (Nat.le_trans hbz.size (show w3.heap.size ≤ (w3.alloc (.cells #[.int .i64 0, .int .i64 0, .int .i64 0, .int .i64 0, .int .i64 0] 43)).heap.size by simp)); clear hX; clear hbz)
    | (go_at_call 61; (with_reducible refine (CL.out _ _ _ _ H3b.out HX.out HZ3.out).mono ?_); rintro e w4 ⟨v2, rfl, hX, hbz⟩; have H4 := Lib.hid (StA.call H3b.out hbz); have HX4 := Lib.hid hX; clear hX hbz))
  go_ret3
  exact SpPost.fin _ _ (HS.out _ HP.out) rfl (HX4.out.mono (StA.below H2.out).size) H4.out.1
set_option maxRecDepth 100000 in
set_option maxHeartbeats 8000000 in
theorem cspan_q3 (s : ByteArray) (k : Nat) (a b : ByteArray) (w : World) (hT : ErrT w) (hr : RomanT w) (hs : s.size ≤ 9223372036854775807) (hk : CutAt s k) (hea : s.extract 0 k = a) (heb : s.extract (k + 1) s.size = b) (hz : a.size = k)
    (ha : hasP a = false) (hb : hasP b = true) (hae : (ptP a).err = 0) (hpe : (perF b.data.toList).err = 0) :
    Calls Tryz.prog 35 #[.string s] w (SpPost s w) := by
  have hsa : a.size ≤ 9223372036854775807 := by rw [← hea, ByteArray.size_extract]; omega
  have hsb : b.size ≤ 9223372036854775807 := by rw [← heb, ByteArray.size_extract]; omega
  have CU : Hid (Calls Tryz.prog 60 #[.string s, .string ⟨#[47]⟩] w fun e w' => e = .returned (.tuple #[.string a, .string b, .bool true]) ∧ Below w.heap.size w w') := Lib.hid (by have q := cutS_hit s k w hk hs; rw [hea, heb] at q; exact q)
  have HS : Hid (∀ P, SpRk a b k P → SpR s P) := Lib.hid fun P h => .inr ⟨k, hk, by rw [hea, heb]; exact h⟩
  have HT := Lib.hid hT; have HRM := Lib.hid hr; have HZ := Lib.hid hz
  clear hk hea heb hT hr hz
  obtain ⟨v0, hv0⟩ : ∃ q, (perF b.data.toList).v 0 = q := ⟨_, rfl⟩; have b0 := perF_bd b.data.toList 0; rw [hv0] at b0; obtain ⟨l0, u0⟩ := b0
  obtain ⟨v1, hv1⟩ : ∃ q, (perF b.data.toList).v 1 = q := ⟨_, rfl⟩; have b1 := perF_bd b.data.toList 1; rw [hv1] at b1; obtain ⟨l1, u1⟩ := b1
  obtain ⟨v2, hv2⟩ : ∃ q, (perF b.data.toList).v 2 = q := ⟨_, rfl⟩; have b2 := perF_bd b.data.toList 2; rw [hv2] at b2; obtain ⟨l2, u2⟩ := b2
  obtain ⟨v3, hv3⟩ : ∃ q, (perF b.data.toList).v 3 = q := ⟨_, rfl⟩; have b3 := perF_bd b.data.toList 3; rw [hv3] at b3; obtain ⟨l3, u3⟩ := b3
  obtain ⟨v4, hv4⟩ : ∃ q, (perF b.data.toList).v 4 = q := ⟨_, rfl⟩; have b4 := perF_bd b.data.toList 4; rw [hv4] at b4; obtain ⟨l4, u4⟩ := b4
  obtain ⟨Ta, hTa⟩ : ∃ q, (ptP a).loc = q := ⟨_, rfl⟩
  have CHa : Hid (∀ w0, Calls Tryz.prog 62 #[.string a, .string ⟨#[80]⟩] w0 fun e w' => e = .returned (.bool false) ∧ w0 = w') := Lib.hid fun w0 => (pref_any a w0).mono fun e w' ⟨h1, h2⟩ => ⟨by rw [h1, ha], h2.symm⟩
  have CHb : Hid (∀ w0, Calls Tryz.prog 62 #[.string b, .string ⟨#[80]⟩] w0 fun e w' => e = .returned (.bool true) ∧ w0 = w') := Lib.hid fun w0 => (pref_any b w0).mono fun e w' ⟨h1, h2⟩ => ⟨by rw [h1, hb], h2.symm⟩
  have CPb : Hid (∀ w0, Calls Tryz.prog 40 #[.string b] w0 fun e w' => e = .returned (.tuple #[.agg #[.int .i64 v0, .int .i64 v1, .int .i64 v2, .int .i64 v3, .int .i64 v4], .nilIface]) ∧ Below w0.heap.size w0 w') := Lib.hid fun w0 => (cparseP_any b w0 hsb).mono fun e w' ⟨hb, h⟩ => by
    rcases h with ⟨-, h⟩ | ⟨h, -⟩
    · unfold agg5 at h; rw [hv0, hv1, hv2, hv3, hv4] at h; exact ⟨h, hb⟩
    · exact absurd hpe h
  have CTa : Hid (∀ w0, Below w.heap.size w w0 → Calls Tryz.prog 63 #[.string a] w0 fun e w' => e = .returned (.tuple #[.int .i64 Ta, .nilIface]) ∧ Below w0.heap.size w0 w') := Lib.hid fun w0 h0 => (cpt_any a w0 (HRM.out.call h0) hsa).mono fun e w' ⟨v, h1, h2, h3⟩ => by obtain ⟨rfl, _⟩ := h2.nil hae; rw [hTa] at h1; exact ⟨h1, h3⟩
  have CA : Hid (∀ w0, Below w.heap.size w w0 → Calls Tryz.prog 64 #[.int .i64 Ta, .agg #[.int .i64 v0, .int .i64 v1, .int .i64 v2, .int .i64 v3, .int .i64 v4]] w0 fun e w' => ∃ r x, (e = .returned (.tuple #[.int .i64 r, errV x]) ∧ AddR Ta v0 v1 v2 v3 v4 r x) ∧ Below w0.heap.size w0 w') := Lib.hid fun w0 h0 => (add_all Ta v0 v1 v2 v3 v4 w0 (HRM.out.call h0)).mono fun e w' ⟨r, x, h1, h2, h3⟩ => ⟨r, x, ⟨h1, h2⟩, h3⟩
  have HP : Hid (∀ r x, AddR Ta v0 v1 v2 v3 v4 r x → SpRk a b k (endS Ta r x)) := Lib.hid fun r x h => by
    unfold SpRk; rw [if_neg (by rw [ha]; decide), if_pos hb, if_neg (fun h => h hae), if_neg (fun h => h hpe), hv0, hv1, hv2, hv3, hv4, hTa]; exact ⟨r, x, h, rfl⟩
  clear hv0 hv1 hv2 hv3 hv4 ha hpe hTa hae hb
  go_enter Tryz.func35, Tryz.ntmps35
  go_wp2_with (first
    | (go_at_call 60; (with_reducible refine CU.out.mono ?_); rintro e w1 ⟨rfl, hb1⟩; have H1 := Lib.hid (StA.new hb1 a 9); have z1 := StA.cell H1.out; clear hb1)
    | (go_at_call 62; (with_reducible refine (CHa.out _).mono ?_); rintro e wq ⟨rfl, rfl⟩)
    | (go_at_call 62; (with_reducible refine (CHb.out _).mono ?_); rintro e wq ⟨rfl, rfl⟩)
    | (go_at_call 63; (with_reducible refine (CTa.out _ (StA.below H1.out)).mono ?_); rintro e w2 ⟨rfl, hbz⟩; have H2 := Lib.hid (StA.call H1.out hbz); have z2 := StA.cell H2.out; clear hbz)
    | (go_at_call 40; (with_reducible refine (CPb.out _).mono ?_); rintro e w3 ⟨rfl, hbz⟩; have H3 := Lib.hid (StA.call H2.out hbz); have z3 := StA.cell H3.out; have H3b := Lib.hid (StA.alloc H3.out (.cells #[.int .i64 v0, .int .i64 v1, .int .i64 v2, .int .i64 v3, .int .i64 v4] 43)); have z3b := StA.cell H3b.out; clear hbz))
  (go_at_call 64; (with_reducible refine (CA.out _ (StA.below H3b.out)).mono ?_); rintro e w5 ⟨r, x, ⟨rfl, hR⟩, hbz⟩; have H5w := Lib.hid (StA.call H3b.out hbz); have HPR := Lib.hid (HP.out _ _ hR); clear hR hbz)
  by_cases hx : x = 0
  · subst hx
    rw [show errV 0 = Value.nilIface from rfl]
    by_cases ho : r < Ta
    · have HO : Hid (SpRk a b k ⟨0, 0, 7, -1⟩) := Lib.hid (by have q := HPR.out; rw [endS_order ho] at q; exact q)
      have hod : decide (r < Ta) = true := decide_eq_true ho; clear ho
      go_wp2_with fail
      go_ret3
      exact SpPost.fin _ _ (HS.out _ HO.out) rfl (.inr (.inl ⟨by show (7 : Int) ≠ 0; decide, rfl, rfl⟩)) H5w.out.1
    · have HO : Hid (SpRk a b k ⟨Ta, r, 0, -1⟩) := Lib.hid (by have q := HPR.out; rw [endS_ok ho] at q; exact q)
      have hod : decide (r < Ta) = false := decide_eq_false ho; clear ho
      go_wp2_with fail
      go_ret3
      exact SpPost.fin _ _ (HS.out _ HO.out) rfl (.inl ⟨rfl, rfl, rfl⟩) H5w.out.1
  · have HO : Hid (SpRk a b k ⟨0, 0, x, -1⟩) := Lib.hid (by have q := HPR.out; rw [endS_err hx] at q; exact q)
    rw [errV_hit hx]; have HXN := Lib.hid hx; clear hx
    go_wp2_with fail
    go_ret3
    exact SpPost.fin _ _ (HS.out _ HO.out) rfl (.inr (.inl ⟨HXN.out, rfl, rfl⟩)) H5w.out.1
set_option maxRecDepth 100000 in
set_option maxHeartbeats 8000000 in
theorem cspan_t1 (s : ByteArray) (k : Nat) (a b : ByteArray) (w : World) (hT : ErrT w) (hr : RomanT w) (hs : s.size ≤ 9223372036854775807) (hk : CutAt s k) (hea : s.extract 0 k = a) (heb : s.extract (k + 1) s.size = b) (hz : a.size = k)
    (ha : hasP a = false) (hb : hasP b = false) (hae : (ptP a).err ≠ 0) :
    Calls Tryz.prog 35 #[.string s] w (SpPost s w) := by
  have hsa : a.size ≤ 9223372036854775807 := by rw [← hea, ByteArray.size_extract]; omega
  have hsb : b.size ≤ 9223372036854775807 := by rw [← heb, ByteArray.size_extract]; omega
  have CU : Hid (Calls Tryz.prog 60 #[.string s, .string ⟨#[47]⟩] w fun e w' => e = .returned (.tuple #[.string a, .string b, .bool true]) ∧ Below w.heap.size w w') := Lib.hid (by have q := cutS_hit s k w hk hs; rw [hea, heb] at q; exact q)
  have HS : Hid (∀ P, SpRk a b k P → SpR s P) := Lib.hid fun P h => .inr ⟨k, hk, by rw [hea, heb]; exact h⟩
  have HT := Lib.hid hT; have HRM := Lib.hid hr; have HZ := Lib.hid hz
  clear hk hea heb hT hr hz
  have CHa : Hid (∀ w0, Calls Tryz.prog 62 #[.string a, .string ⟨#[80]⟩] w0 fun e w' => e = .returned (.bool false) ∧ w0 = w') := Lib.hid fun w0 => (pref_any a w0).mono fun e w' ⟨h1, h2⟩ => ⟨by rw [h1, ha], h2.symm⟩
  have CHb : Hid (∀ w0, Calls Tryz.prog 62 #[.string b, .string ⟨#[80]⟩] w0 fun e w' => e = .returned (.bool false) ∧ w0 = w') := Lib.hid fun w0 => (pref_any b w0).mono fun e w' ⟨h1, h2⟩ => ⟨by rw [h1, hb], h2.symm⟩
  have CTa : Hid (∀ w0, Below w.heap.size w w0 → Calls Tryz.prog 63 #[.string a] w0 fun e w' => ∃ q v, e = .returned (.tuple #[.int .i64 q, v]) ∧ (v = .iface 25 (.int .i64 (ptP a).err) ∨ ∃ p : Nat, v = .iface 105 (.pointer (some ⟨p, 0, none⟩))) ∧ ErrIs w0.heap.size (ptP a).err (ptP a).place v w' ∧ Below w0.heap.size w0 w') := Lib.hid fun w0 h0 => (cpt_any a w0 (HRM.out.call h0) hsa).mono fun e w' ⟨v, h1, h2, h3⟩ => by
    exact ⟨_, v, h1, (h2.ne hae).imp (fun h => h.1) (fun ⟨p, h, _⟩ => ⟨p, h⟩), h2, h3⟩
  have HP : Hid (SpRk a b k ⟨0, 0, (ptP a).err, (ptP a).place⟩) := Lib.hid (by unfold SpRk; rw [if_neg (by rw [ha]; decide), if_neg (by rw [hb]; decide), if_pos hae])
  clear ha hb hae
  go_enter Tryz.func35, Tryz.ntmps35
  go_wp2_with (first
    | (go_at_call 60; (with_reducible refine CU.out.mono ?_); rintro e w1 ⟨rfl, hb1⟩; have H1 := Lib.hid (StA.new hb1 a 9); have z1 := StA.cell H1.out; clear hb1)
    | (go_at_call 62; (with_reducible refine (CHa.out _).mono ?_); rintro e wq ⟨rfl, rfl⟩)
    | (go_at_call 62; (with_reducible refine (CHb.out _).mono ?_); rintro e wq ⟨rfl, rfl⟩)
    | (go_at_call 63; (with_reducible refine (CTa.out _ (StA.below H1.out)).mono ?_); rintro e w3 ⟨q, v, rfl, (rfl | ⟨p, rfl⟩), hX, hbz⟩ <;> (have H3 := Lib.hid (StA.call H1.out hbz); have z3 := StA.cell H3.out; have HX := Lib.hid hX; clear hX hbz)))
  all_goals
    go_ret3
    exact SpPost.fin _ _ (HS.out _ HP.out) rfl (HX.out.j.mono (StA.below H1.out).size) H3.out.1
set_option maxRecDepth 100000 in
set_option maxHeartbeats 8000000 in
theorem cspan_t2 (s : ByteArray) (k : Nat) (a b : ByteArray) (w : World) (hT : ErrT w) (hr : RomanT w) (hs : s.size ≤ 9223372036854775807) (hk : CutAt s k) (hea : s.extract 0 k = a) (heb : s.extract (k + 1) s.size = b) (hz : a.size = k)
    (ha : hasP a = false) (hb : hasP b = false) (hae : (ptP a).err = 0) (hbe : (ptP b).err ≠ 0) :
    Calls Tryz.prog 35 #[.string s] w (SpPost s w) := by
  have hsa : a.size ≤ 9223372036854775807 := by rw [← hea, ByteArray.size_extract]; omega
  have hsb : b.size ≤ 9223372036854775807 := by rw [← heb, ByteArray.size_extract]; omega
  have CU : Hid (Calls Tryz.prog 60 #[.string s, .string ⟨#[47]⟩] w fun e w' => e = .returned (.tuple #[.string a, .string b, .bool true]) ∧ Below w.heap.size w w') := Lib.hid (by have q := cutS_hit s k w hk hs; rw [hea, heb] at q; exact q)
  have HS : Hid (∀ P, SpRk a b k P → SpR s P) := Lib.hid fun P h => .inr ⟨k, hk, by rw [hea, heb]; exact h⟩
  have HT := Lib.hid hT; have HRM := Lib.hid hr; have HZ := Lib.hid hz
  clear hk hea heb hT hr hz
  obtain ⟨Ta, hTa⟩ : ∃ q, (ptP a).loc = q := ⟨_, rfl⟩
  have CHa : Hid (∀ w0, Calls Tryz.prog 62 #[.string a, .string ⟨#[80]⟩] w0 fun e w' => e = .returned (.bool false) ∧ w0 = w') := Lib.hid fun w0 => (pref_any a w0).mono fun e w' ⟨h1, h2⟩ => ⟨by rw [h1, ha], h2.symm⟩
  have CHb : Hid (∀ w0, Calls Tryz.prog 62 #[.string b, .string ⟨#[80]⟩] w0 fun e w' => e = .returned (.bool false) ∧ w0 = w') := Lib.hid fun w0 => (pref_any b w0).mono fun e w' ⟨h1, h2⟩ => ⟨by rw [h1, hb], h2.symm⟩
  have CTa : Hid (∀ w0, Below w.heap.size w w0 → Calls Tryz.prog 63 #[.string a] w0 fun e w' => e = .returned (.tuple #[.int .i64 Ta, .nilIface]) ∧ Below w0.heap.size w0 w') := Lib.hid fun w0 h0 => (cpt_any a w0 (HRM.out.call h0) hsa).mono fun e w' ⟨v, h1, h2, h3⟩ => by obtain ⟨rfl, _⟩ := h2.nil hae; rw [hTa] at h1; exact ⟨h1, h3⟩
  have CTb : Hid (∀ w0, Below w.heap.size w w0 → Calls Tryz.prog 63 #[.string b] w0 fun e w' => ∃ q v, e = .returned (.tuple #[.int .i64 q, v]) ∧ (v = .iface 25 (.int .i64 (ptP b).err) ∨ ∃ p : Nat, v = .iface 105 (.pointer (some ⟨p, 0, none⟩))) ∧ ErrIs w0.heap.size (ptP b).err (ptP b).place v w' ∧ Below w0.heap.size w0 w') := Lib.hid fun w0 h0 => (cpt_any b w0 (HRM.out.call h0) hsb).mono fun e w' ⟨v, h1, h2, h3⟩ => by
    exact ⟨_, v, h1, (h2.ne hbe).imp (fun h => h.1) (fun ⟨p, h, _⟩ => ⟨p, h⟩), h2, h3⟩
  have HP : Hid (SpRk a b k ⟨0, 0, (ptP b).err, latE k (ptP b).place⟩) := Lib.hid (by unfold SpRk; rw [if_neg (by rw [ha]; decide), if_neg (by rw [hb]; decide), if_neg (fun h => h hae), if_pos hbe])
  have CL : Hid (∀ (x : World) (v : Value) (ba B : Nat), StA w ba a x → ErrIs B (ptP b).err (ptP b).place v x → B ≤ x.heap.size → Calls Tryz.prog 61 #[v, .pointer (some ⟨ba, 0, none⟩)] x fun e w' => ∃ v', e = .returned v' ∧ ErrJ B (ptP b).err (latE k (ptP b).place) v' w' ∧ Below x.heap.size x w') := Lib.hid fun x v ba B h1 h2 h3 => by
    have q := later_any (B := B) a ba x (HT.out.call h1.1) h2 hbe h3 h1.2.2.2
    rw [HZ.out] at q; exact q
  clear ha hb hae hbe hTa
  go_enter Tryz.func35, Tryz.ntmps35
  go_wp2_with (first
    | (go_at_call 60; (with_reducible refine CU.out.mono ?_); rintro e w1 ⟨rfl, hb1⟩; have H1 := Lib.hid (StA.new hb1 a 9); have z1 := StA.cell H1.out; clear hb1)
    | (go_at_call 62; (with_reducible refine (CHa.out _).mono ?_); rintro e wq ⟨rfl, rfl⟩)
    | (go_at_call 62; (with_reducible refine (CHb.out _).mono ?_); rintro e wq ⟨rfl, rfl⟩)
    | (go_at_call 63; (with_reducible refine (CTa.out _ (StA.below H1.out)).mono ?_); rintro e w2 ⟨rfl, hbz⟩; have H2 := Lib.hid (StA.call H1.out hbz); have z2 := StA.cell H2.out; clear hbz)
    | (go_at_call 63; (with_reducible refine (CTb.out _ (StA.below H2.out)).mono ?_); rintro e w3 ⟨q, v, rfl, (rfl | ⟨p, rfl⟩), hX, hbz⟩ <;> (have H3 := Lib.hid (StA.call H2.out hbz); have z3 := StA.cell H3.out; have HX := Lib.hid hX; have H3s := Lib.hid hbz.size; clear hX hbz))
    | (go_at_call 61; (with_reducible refine (CL.out _ _ _ _ H3.out HX.out H3s.out).mono ?_); rintro e w4 ⟨v2, rfl, hX, hbz⟩; have H4 := Lib.hid (StA.call H3.out hbz); have HX4 := Lib.hid hX; clear hX hbz))
  all_goals
    go_ret3
    exact SpPost.fin _ _ (HS.out _ HP.out) rfl (HX4.out.mono (StA.below H2.out).size) H4.out.1
set_option maxRecDepth 100000 in
set_option maxHeartbeats 8000000 in
theorem cspan_t3 (s : ByteArray) (k : Nat) (a b : ByteArray) (w : World) (hT : ErrT w) (hr : RomanT w) (hs : s.size ≤ 9223372036854775807) (hk : CutAt s k) (hea : s.extract 0 k = a) (heb : s.extract (k + 1) s.size = b) (hz : a.size = k)
    (ha : hasP a = false) (hb : hasP b = false) (hae : (ptP a).err = 0) (hbe : (ptP b).err = 0) :
    Calls Tryz.prog 35 #[.string s] w (SpPost s w) := by
  have hsa : a.size ≤ 9223372036854775807 := by rw [← hea, ByteArray.size_extract]; omega
  have hsb : b.size ≤ 9223372036854775807 := by rw [← heb, ByteArray.size_extract]; omega
  have CU : Hid (Calls Tryz.prog 60 #[.string s, .string ⟨#[47]⟩] w fun e w' => e = .returned (.tuple #[.string a, .string b, .bool true]) ∧ Below w.heap.size w w') := Lib.hid (by have q := cutS_hit s k w hk hs; rw [hea, heb] at q; exact q)
  have HS : Hid (∀ P, SpRk a b k P → SpR s P) := Lib.hid fun P h => .inr ⟨k, hk, by rw [hea, heb]; exact h⟩
  have HT := Lib.hid hT; have HRM := Lib.hid hr; have HZ := Lib.hid hz
  clear hk hea heb hT hr hz
  obtain ⟨Ta, hTa⟩ : ∃ q, (ptP a).loc = q := ⟨_, rfl⟩; obtain ⟨Tb, hTb⟩ : ∃ q, (ptP b).loc = q := ⟨_, rfl⟩
  have CHa : Hid (∀ w0, Calls Tryz.prog 62 #[.string a, .string ⟨#[80]⟩] w0 fun e w' => e = .returned (.bool false) ∧ w0 = w') := Lib.hid fun w0 => (pref_any a w0).mono fun e w' ⟨h1, h2⟩ => ⟨by rw [h1, ha], h2.symm⟩
  have CHb : Hid (∀ w0, Calls Tryz.prog 62 #[.string b, .string ⟨#[80]⟩] w0 fun e w' => e = .returned (.bool false) ∧ w0 = w') := Lib.hid fun w0 => (pref_any b w0).mono fun e w' ⟨h1, h2⟩ => ⟨by rw [h1, hb], h2.symm⟩
  have CTa : Hid (∀ w0, Below w.heap.size w w0 → Calls Tryz.prog 63 #[.string a] w0 fun e w' => e = .returned (.tuple #[.int .i64 Ta, .nilIface]) ∧ Below w0.heap.size w0 w') := Lib.hid fun w0 h0 => (cpt_any a w0 (HRM.out.call h0) hsa).mono fun e w' ⟨v, h1, h2, h3⟩ => by obtain ⟨rfl, _⟩ := h2.nil hae; rw [hTa] at h1; exact ⟨h1, h3⟩
  have CTb : Hid (∀ w0, Below w.heap.size w w0 → Calls Tryz.prog 63 #[.string b] w0 fun e w' => e = .returned (.tuple #[.int .i64 Tb, .nilIface]) ∧ Below w0.heap.size w0 w') := Lib.hid fun w0 h0 => (cpt_any b w0 (HRM.out.call h0) hsb).mono fun e w' ⟨v, h1, h2, h3⟩ => by obtain ⟨rfl, _⟩ := h2.nil hbe; rw [hTb] at h1; exact ⟨h1, h3⟩
  have HP : Hid (SpRk a b k (endS Ta Tb 0)) := Lib.hid (by unfold SpRk; rw [if_neg (by rw [ha]; decide), if_neg (by rw [hb]; decide), if_neg (fun h => h hae), if_neg (fun h => h hbe), hTa, hTb])
  clear ha hb hae hbe hTa hTb
  by_cases ho : Tb < Ta
  · have HO : Hid (SpRk a b k ⟨0, 0, 7, -1⟩) := Lib.hid (by have q := HP.out; rw [endS_order ho] at q; exact q)
    have hod : decide (Tb < Ta) = true := decide_eq_true ho; clear ho
    go_enter Tryz.func35, Tryz.ntmps35
    go_wp2_with (first
      | (go_at_call 60; (with_reducible refine CU.out.mono ?_); rintro e w1 ⟨rfl, hb1⟩; have H1 := Lib.hid (StA.new hb1 a 9); have z1 := StA.cell H1.out; clear hb1)
      | (go_at_call 62; (with_reducible refine (CHa.out _).mono ?_); rintro e wq ⟨rfl, rfl⟩)
      | (go_at_call 62; (with_reducible refine (CHb.out _).mono ?_); rintro e wq ⟨rfl, rfl⟩)
      | (go_at_call 63; (with_reducible refine (CTa.out _ (StA.below H1.out)).mono ?_); rintro e w2 ⟨rfl, hbz⟩; have H2 := Lib.hid (StA.call H1.out hbz); have z2 := StA.cell H2.out; clear hbz)
      | (go_at_call 63; (with_reducible refine (CTb.out _ (StA.below H2.out)).mono ?_); rintro e w3 ⟨rfl, hbz⟩; have H3 := Lib.hid (StA.call H2.out hbz); have z3 := StA.cell H3.out; clear hbz))
    go_ret3
    exact SpPost.fin _ _ (HS.out _ HO.out) rfl (.inr (.inl ⟨by show (7 : Int) ≠ 0; decide, rfl, rfl⟩)) H3.out.1
  · have HO : Hid (SpRk a b k ⟨Ta, Tb, 0, -1⟩) := Lib.hid (by have q := HP.out; rw [endS_ok ho] at q; exact q)
    have hod : decide (Tb < Ta) = false := decide_eq_false ho; clear ho
    go_enter Tryz.func35, Tryz.ntmps35
    go_wp2_with (first
      | (go_at_call 60; (with_reducible refine CU.out.mono ?_); rintro e w1 ⟨rfl, hb1⟩; have H1 := Lib.hid (StA.new hb1 a 9); have z1 := StA.cell H1.out; clear hb1)
      | (go_at_call 62; (with_reducible refine (CHa.out _).mono ?_); rintro e wq ⟨rfl, rfl⟩)
      | (go_at_call 62; (with_reducible refine (CHb.out _).mono ?_); rintro e wq ⟨rfl, rfl⟩)
      | (go_at_call 63; (with_reducible refine (CTa.out _ (StA.below H1.out)).mono ?_); rintro e w2 ⟨rfl, hbz⟩; have H2 := Lib.hid (StA.call H1.out hbz); have z2 := StA.cell H2.out; clear hbz)
      | (go_at_call 63; (with_reducible refine (CTb.out _ (StA.below H2.out)).mono ?_); rintro e w3 ⟨rfl, hbz⟩; have H3 := Lib.hid (StA.call H2.out hbz); have z3 := StA.cell H3.out; clear hbz))
    go_ret3
    exact SpPost.fin _ _ (HS.out _ HO.out) rfl (.inl ⟨rfl, rfl, rfl⟩) H3.out.1
theorem cut_or (s : ByteArray) : (47 : UInt8) ∉ s.data.toList ∨ ∃ k, CutAt s k := by
  by_cases h : (47 : UInt8) ∈ s.data.toList
  · obtain ⟨p, t, hr, hp⟩ := List.eq_append_cons_of_mem h
    refine .inr ⟨p.length, ?_, fun j hj => ?_⟩
    · rw [hr]; simp
    · rw [hr, List.getElem?_append_left hj]
      intro e
      exact hp (List.mem_of_getElem? e)
  · exact .inl h
theorem cspan_any (s : ByteArray) (w : World) (hT : ErrT w) (hr : RomanT w) (hs : s.size ≤ 9223372036854775807) : Calls Tryz.prog 35 #[.string s] w (SpPost s w) := by
  rcases cut_or s with h | ⟨k, hk⟩
  · exact cspan_no s w h
  · have hl := hk.lt
    have hz : (s.extract 0 k).size = k := by rw [ByteArray.size_extract]; omega
    cases ha : hasP (s.extract 0 k) with
    | true =>
      by_cases hpe : (perF (s.extract 0 k).data.toList).err = 0
      · by_cases hbe : (ptP (s.extract (k + 1) s.size)).err = 0
        · exact cspan_p3 s k _ _ w hT hr hs hk rfl rfl hz ha hpe hbe
        · exact cspan_p2 s k _ _ w hT hr hs hk rfl rfl hz ha hpe hbe
      · exact cspan_p1 s k _ _ w hT hr hs hk rfl rfl hz ha hpe
    | false =>
      cases hb : hasP (s.extract (k + 1) s.size) with
      | true =>
        by_cases hae : (ptP (s.extract 0 k)).err = 0
        · by_cases hpe : (perF (s.extract (k + 1) s.size).data.toList).err = 0
          · exact cspan_q3 s k _ _ w hT hr hs hk rfl rfl hz ha hb hae hpe
          · exact cspan_q2 s k _ _ w hT hr hs hk rfl rfl hz ha hb hae hpe
        · exact cspan_q1 s k _ _ w hT hr hs hk rfl rfl hz ha hb hae
      | false =>
        by_cases hae : (ptP (s.extract 0 k)).err = 0
        · by_cases hbe : (ptP (s.extract (k + 1) s.size)).err = 0
          · exact cspan_t3 s k _ _ w hT hr hs hk rfl rfl hz ha hb hae hbe
          · exact cspan_t2 s k _ _ w hT hr hs hk rfl rfl hz ha hb hae hbe
        · exact cspan_t1 s k _ _ w hT hr hs hk rfl rfl hz ha hb hae
end Go.Proofs.YtkfpnlenmdlmjaaGreatDoor
