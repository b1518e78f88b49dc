/- great: the program's, the document's. -/
import Derived.Test.YtidgahnamdhflaaDoorPsxA
import Derived.Test.YtidgahnamdhflaaDoorPrtG
import Derived.Laws.IdiomStrings
namespace Go.Proofs.YtidgahnamdhflaaDoor
open Go.RowKit Go.Shelf Fld Prt Psx
/-- A []byte under way: k bytes of it are done. -/
def GrB (h : Nat) (s : ByteArray) (k : Nat) (w : World) : Prop := h < w.heap.size ∧ ∀ i (hi : i < s.size), w.cell? ⟨h, i, none⟩ = some (.int .u8 ((if i < k then greatC s[i] else s[i]).toNat : Int)) ∧ w.frozen? ⟨h, i, none⟩ = false
theorem GrB.skip {h : Nat} {s : ByteArray} {k : Nat} {w : World} (H : GrB h s k w) (hk : k < s.size) (hg : greatC s[k] = s[k]) : GrB h s (k + 1) w := by
  refine ⟨H.1, fun i hi => ⟨?_, (H.2 i hi).2⟩⟩
  rw [(H.2 i hi).1]
  by_cases h1 : i = k
  · subst h1
    rw [if_neg (Nat.lt_irrefl i), if_pos (Nat.lt_succ_self i), hg]
  · by_cases h2 : i < k
    · rw [if_pos h2, if_pos (by omega)]
    · rw [if_neg h2, if_neg (by omega)]
theorem GrB.put {h : Nat} {s : ByteArray} {k : Nat} {w : World} (H : GrB h s k w) (hk : k < s.size) (x : Int) (hx : x = ((greatC s[k]).toNat : Int)) : GrB h s (k + 1) (w.setCell ⟨h, k, none⟩ (.int .u8 x)) := by
  subst hx
  refine ⟨by simpa [World.setCell] using H.1, fun i hi => ⟨?_, by simpa using (H.2 i hi).2⟩⟩
  by_cases h1 : i = k
  · subst h1
    rw [if_pos (Nat.lt_succ_self i)]
    exact World.cell?_setCell_same _ _ _ (H.2 i hi).1
  · rw [World.cell?_setCell_other _ _ _ _ (by intro e; injection e with _ e2; exact h1 e2.symm), (H.2 i hi).1]
    by_cases h2 : i < k
    · rw [if_pos h2, if_pos (by omega)]
    · rw [if_neg h2, if_neg (by omega)]
theorem greatC_yes {c : UInt8} (h1 : 97 ≤ c.toNat) (h2 : c.toNat ≤ 122) : (((c.toNat : Int) - 97 + 65) = ((greatC c).toNat : Int)) := by
  unfold greatC
  rw [if_pos ⟨h1, h2⟩]
  have : (c - 32).toNat = c.toNat - 32 := by
    rw [UInt8.toNat_sub_of_le]
    · rfl
    · show (32 : UInt8).toNat ≤ c.toNat
      show 32 ≤ c.toNat; omega
  rw [this]
  omega
theorem greatC_no {c : UInt8} (h : ¬ (97 ≤ c.toNat ∧ c.toNat ≤ 122)) : greatC c = c := if_neg h
theorem GrB.back {h : Nat} {s : ByteArray} {w : World} (H : GrB h s s.size w) (cap : Nat) :
    (convert 70 9 (.slice (some ⟨h, 0, none⟩) s.size cap)).run Tryd.prog w = .ok (.string (bs (greatL s.data.toList))) w := by
  have hl : (greatL s.data.toList).length = s.size := by rw [greatL_len, len_eq]
  have e := run_convert_bytes_back (P := Tryd.prog) w 70 9 5 ⟨h, 0, none⟩ cap (greatL s.data.toList) Tryd.underlying70 Tryd.underlying5 Tryd.underlying9 fun j hj => by
    have hj2 : j < s.size := by rw [← hl]; exact hj
    have h1 := (H.2 j hj2).1
    rw [if_pos hj2] at h1
    rw [Addr.add_lit, Nat.zero_add, h1]
    congr 3
    simp [greatL]
    rfl
  rw [hl] at e
  exact e
set_option maxRecDepth 100000 in
set_option maxHeartbeats 4000000 in
theorem great_any (s : ByteArray) (w : World) (hs : s.size ≤ 1099511627776) :
    Calls Tryd.prog 63 #[.string s] w fun e w' => e = .returned (.string (bs (greatL s.data.toList))) ∧ Below w.heap.size w w' := by
  have hcv := run_bytes_of_string (P := Tryd.prog) w 9 70 5 s Tryd.underlying9 Tryd.underlying70 Tryd.underlying5
  obtain ⟨cap, hcap⟩ : ∃ c, grownCap w s.size 0 5 = c := ⟨_, rfl⟩
  rw [hcap] at hcv
  have hrow : ∀ j (hj : j < s.size), (bytesRow s cap)[j]? = some (.int .u8 (s[j].toNat : Int)) := fun j hj => bytesRow_at s cap j hj
  have hsz : s.size ≤ (bytesRow s cap).size := by unfold bytesRow; rw [Array.size_append, Array.size_map]; exact Nat.le_add_right _ _
  obtain ⟨C, hC⟩ : ∃ C, bytesRow s cap = C := ⟨_, rfl⟩
  rw [hC] at hcv hrow hsz
  obtain ⟨w0, hw0⟩ : ∃ x, w.drew.alloc (.cells C 5 (C.size, C.size + 1)) = x := ⟨_, rfl⟩
  have HG0 : Hid (GrB w.heap.size s 0 w0) := Lib.hid (by
    rw [← hw0]
    refine ⟨by simp, fun i hi => ⟨?_, ?_⟩⟩
    · rw [if_neg (by omega)]
      have e := hrow i hi
      have : (w.drew.alloc (.cells C 5 (C.size, C.size + 1))).heap[w.heap.size]? = some (.cells C 5 (C.size, C.size + 1)) := by show (w.heap.push _)[w.heap.size]? = _; exact Array.getElem?_push_size
      unfold World.cell?
      rw [this]
      exact e
    · have : (w.drew.alloc (.cells C 5 (C.size, C.size + 1))).heap[w.heap.size]? = some (.cells C 5 (C.size, C.size + 1)) := by show (w.heap.push _)[w.heap.size]? = _; exact Array.getElem?_push_size
      unfold World.frozen?
      rw [this]
      simp
      omega)
  have HB0 : Hid (Below w.heap.size w w0) := Lib.hid (by rw [← hw0]; exact (below_drew (Below.refl _ _)).alloc (Nat.le_refl _) _)
  rw [hw0] at hcv
  clear hw0 hC hrow hsz hcap
  go_enter Tryd.func63, Tryd.ntmps63
  go_wp2
  go_loopw [10] (fun c wr => ∃ k : Nat, c = .int .i64 (k : Int) ∧ k ≤ s.size ∧ Hid (GrB w.heap.size s k wr) ∧ Hid (Below w.heap.size w wr)) (fun c _ => s.size - (intOf c).toNat)
  case atStart => exact ⟨0, rfl, by omega, HG0, HB0⟩
  case round =>
    clear HG0 HB0 hcv
    obtain ⟨k, rfl, hk, HG, HB⟩ := hrel
    obtain ⟨wA, rfl⟩ : ∃ wo : World, wo = wr := ⟨_, rfl⟩
    have hlt := HG.out.1
    by_cases hks : k < s.size
    · have hc := (HG.out.2 k hks)
      rw [if_neg (Nat.lt_irrefl k)] at hc
      obtain ⟨c0, f0⟩ := hc
      have k1 : (0 : Int) ≤ (k : Int) := by omega
      have k2 : (k : Int) < (s.size : Int) := by omega
      have HS := Lib.hid (fun hg => HG.out.skip hks hg)
      have HP := Lib.hid (fun x hx => HG.out.put hks x hx)
      by_cases h1 : 97 ≤ s[k].toNat
      · by_cases h2 : s[k].toNat ≤ 122
        · have HX := Lib.hid (greatC_yes h1 h2)
          have d1 : decide ((97 : Int) ≤ (s[k].toNat : Int)) = true := decide_eq_true (by omega)
          have d2 : decide ((s[k].toNat : Int) ≤ 122) = true := decide_eq_true (by omega)
          have u1 : IntKind.u8.wrap ((s[k].toNat : Int) - 97) = (s[k].toNat : Int) - 97 := by unfold IntKind.wrap; simp [IntKind.bits, IntKind.signed]; omega
          have u2 : IntKind.u8.wrap ((s[k].toNat : Int) - 97 + 65) = (s[k].toNat : Int) - 97 + 65 := by unfold IntKind.wrap; simp [IntKind.bits, IntKind.signed]; omega
          go_wp2_with fail
          go_roundw
          case rel => exact ⟨k + 1, by go_num, by omega, Lib.hid (HP.out _ HX.out), Lib.hid (HB.out.setCell (p := ⟨w.heap.size, k, none⟩) (Nat.le_refl _) _)⟩
          case measure => simp [intOf]; omega
        · have d1 : decide ((97 : Int) ≤ (s[k].toNat : Int)) = true := decide_eq_true (by omega)
          have d2 : decide ((s[k].toNat : Int) ≤ 122) = false := decide_eq_false (by omega)
          have HX := Lib.hid (greatC_no (c := s[k]) (fun h => h2 h.2))
          go_wp2_with fail
          go_roundw
          case rel => exact ⟨k + 1, by go_num, by omega, Lib.hid (HS.out HX.out), HB⟩
          case measure => simp [intOf]; omega
      · have d1 : decide ((97 : Int) ≤ (s[k].toNat : Int)) = false := decide_eq_false (by omega)
        have HX := Lib.hid (greatC_no (c := s[k]) (fun h => h1 h.1))
        go_wp2_with fail
        go_roundw
        case rel => exact ⟨k + 1, by go_num, by omega, Lib.hid (HS.out HX.out), HB⟩
        case measure => simp [intOf]; omega
    · obtain rfl : k = s.size := by omega
      have hback := HG.out.back cap
      go_wp2_with fail
      go_ret
      exact ⟨rfl, HB.out⟩
set_option maxRecDepth 100000 in
set_option maxHeartbeats 4000000 in
theorem rgreat_any (s : ByteArray) (w : World) (hs : s.size ≤ 1099511627776) :
    Calls Tryd.prog 43 #[.string s] w fun e w' => e = .returned (.string (bs (greatL s.data.toList))) ∧ Below w.heap.size w w' := by
  have hcv := run_bytes_of_string (P := Tryd.prog) w 9 70 5 s Tryd.underlying9 Tryd.underlying70 Tryd.underlying5
  obtain ⟨cap, hcap⟩ : ∃ c, grownCap w s.size 0 5 = c := ⟨_, rfl⟩
  rw [hcap] at hcv
  have hrow : ∀ j (hj : j < s.size), (bytesRow s cap)[j]? = some (.int .u8 (s[j].toNat : Int)) := fun j hj => bytesRow_at s cap j hj
  have hsz : s.size ≤ (bytesRow s cap).size := by unfold bytesRow; rw [Array.size_append, Array.size_map]; exact Nat.le_add_right _ _
  obtain ⟨C, hC⟩ : ∃ C, bytesRow s cap = C := ⟨_, rfl⟩
  rw [hC] at hcv hrow hsz
  obtain ⟨w0, hw0⟩ : ∃ x, w.drew.alloc (.cells C 5 (C.size, C.size + 1)) = x := ⟨_, rfl⟩
  have HG0 : Hid (GrB w.heap.size s 0 w0) := Lib.hid (by
    rw [← hw0]
    refine ⟨by simp, fun i hi => ⟨?_, ?_⟩⟩
    · rw [if_neg (by omega)]
      have e := hrow i hi
      have : (w.drew.alloc (.cells C 5 (C.size, C.size + 1))).heap[w.heap.size]? = some (.cells C 5 (C.size, C.size + 1)) := by show (w.heap.push _)[w.heap.size]? = _; exact Array.getElem?_push_size
      unfold World.cell?
      rw [this]
      exact e
    · have : (w.drew.alloc (.cells C 5 (C.size, C.size + 1))).heap[w.heap.size]? = some (.cells C 5 (C.size, C.size + 1)) := by show (w.heap.push _)[w.heap.size]? = _; exact Array.getElem?_push_size
      unfold World.frozen?
      rw [this]
      simp
      omega)
  have HB0 : Hid (Below w.heap.size w w0) := Lib.hid (by rw [← hw0]; exact (below_drew (Below.refl _ _)).alloc (Nat.le_refl _) _)
  rw [hw0] at hcv
  clear hw0 hC hrow hsz hcap
  go_enter Tryd.func43, Tryd.ntmps43
  go_wp2
  go_loopw [4] (fun c wr => ∃ k : Nat, c = .int .i64 (k : Int) ∧ k ≤ s.size ∧ Hid (GrB w.heap.size s k wr) ∧ Hid (Below w.heap.size w wr)) (fun c _ => s.size - (intOf c).toNat)
  case atStart => exact ⟨0, rfl, by omega, HG0, HB0⟩
  case round =>
    clear HG0 HB0 hcv
    obtain ⟨k, rfl, hk, HG, HB⟩ := hrel
    obtain ⟨wA, rfl⟩ : ∃ wo : World, wo = wr := ⟨_, rfl⟩
    have hlt := HG.out.1
    by_cases hks : k < s.size
    · have hc := (HG.out.2 k hks)
      rw [if_neg (Nat.lt_irrefl k)] at hc
      obtain ⟨c0, f0⟩ := hc
      have k1 : (0 : Int) ≤ (k : Int) := by omega
      have k2 : (k : Int) < (s.size : Int) := by omega
      have HS := Lib.hid (fun hg => HG.out.skip hks hg)
      have HP := Lib.hid (fun x hx => HG.out.put hks x hx)
      by_cases h1 : 97 ≤ s[k].toNat
      · by_cases h2 : s[k].toNat ≤ 122
        · have HX := Lib.hid (greatC_yes h1 h2)
          have d1 : decide ((97 : Int) ≤ (s[k].toNat : Int)) = true := decide_eq_true (by omega)
          have d2 : decide ((s[k].toNat : Int) ≤ 122) = true := decide_eq_true (by omega)
          have u1 : IntKind.u8.wrap ((s[k].toNat : Int) - 97) = (s[k].toNat : Int) - 97 := by unfold IntKind.wrap; simp [IntKind.bits, IntKind.signed]; omega
          have u2 : IntKind.u8.wrap ((s[k].toNat : Int) - 97 + 65) = (s[k].toNat : Int) - 97 + 65 := by unfold IntKind.wrap; simp [IntKind.bits, IntKind.signed]; omega
          go_wp2_with fail
          go_roundw
          case rel => exact ⟨k + 1, by go_num, by omega, Lib.hid (HP.out _ HX.out), Lib.hid (HB.out.setCell (p := ⟨w.heap.size, k, none⟩) (Nat.le_refl _) _)⟩
          case measure => simp [intOf]; omega
        · have d1 : decide ((97 : Int) ≤ (s[k].toNat : Int)) = true := decide_eq_true (by omega)
          have d2 : decide ((s[k].toNat : Int) ≤ 122) = false := decide_eq_false (by omega)
          have HX := Lib.hid (greatC_no (c := s[k]) (fun h => h2 h.2))
          go_wp2_with fail
          go_roundw
          case rel => exact ⟨k + 1, by go_num, by omega, Lib.hid (HS.out HX.out), HB⟩
          case measure => simp [intOf]; omega
      · have d1 : decide ((97 : Int) ≤ (s[k].toNat : Int)) = false := decide_eq_false (by omega)
        have HX := Lib.hid (greatC_no (c := s[k]) (fun h => h1 h.1))
        go_wp2_with fail
        go_roundw
        case rel => exact ⟨k + 1, by go_num, by omega, Lib.hid (HS.out HX.out), HB⟩
        case measure => simp [intOf]; omega
    · obtain rfl : k = s.size := by omega
      have hback := HG.out.back cap
      go_wp2_with fail
      go_ret
      exact ⟨rfl, HB.out⟩
end Go.Proofs.YtidgahnamdhflaaDoor
