/- The document's upTo; parts that were made, in memory. -/
import Derived.Test.YtidgahnamdhflaaDoorPsxB
import Derived.Test.YtidgahnamdhflaaDoorPrtD
namespace Go.Proofs.YtidgahnamdhflaaDoor
open Go.RowKit Go.Shelf Fld Prt Psx
set_option maxRecDepth 100000 in
set_option maxHeartbeats 4000000 in
theorem upTo_any (s q : ByteArray) (w : World) (hs : s.size ≤ 1099511627776) (hq : q.size ≤ 8) :
    Calls Tryd.prog 64 #[.string s, .string q] w fun e w' => e = .returned (.int .i64 (Lib.indexAny s.data.toList q.data.toList)) ∧ Below w.heap.size w w' := by
  have hN0 := Lib.NoAny.zero s.data.toList q.data.toList
  go_enter Tryd.func64, Tryd.ntmps64
  go_wp2
  go_loopw [5] (fun c wr => ∃ i : Nat, c = .int .i64 (i : Int) ∧ i ≤ s.size ∧ Hid (Lib.NoAny s.data.toList q.data.toList i) ∧ Hid (Below w.heap.size w wr)) (fun c _ => s.size - (intOf c).toNat)
  case atStart => exact ⟨0, rfl, by omega, Lib.hid hN0, Lib.hid (Below.refl _ _)⟩
  case round =>
    clear hN0
    obtain ⟨i, rfl, hi, HN, HB⟩ := hrel
    obtain ⟨wA, rfl⟩ : ∃ wo : World, wo = wr := ⟨_, rfl⟩
    by_cases his : i < s.size
    · have HX := Lib.hid (getE_list s i his)
      have k1 : (0 : Int) ≤ (i : Int) := by omega
      have k2 : (i : Int) < (s.size : Int) := by omega
      go_wp2_with fail
      go_loopw [6] (fun c wr => ∃ j : Nat, c = .int .i64 (j : Int) ∧ j ≤ q.size ∧ Hid (∀ m (hm : m < q.size), m < j → q[m] ≠ s[i]) ∧ Hid (Below w.heap.size w wr)) (fun c _ => q.size - (intOf c).toNat)
      case atStart => exact ⟨0, rfl, by omega, Lib.hid (fun m _ h => absurd h (Nat.not_lt_zero m)), HB⟩
      case round =>
        clear HB
        obtain ⟨j, rfl, hj, HJ, HB⟩ := hrel
        obtain ⟨wD, rfl⟩ : ∃ wo : World, wo = wr := ⟨_, rfl⟩
        by_cases hjq : j < q.size
        · have j1 : (0 : Int) ≤ (j : Int) := by omega
          have j2 : (j : Int) < (q.size : Int) := by omega
          have HBx : Hid (∀ n, Below w.heap.size w (wD.drewN n)) := Lib.hid fun n => below_drewN HB.out n
          by_cases he : q[j] = s[i]
          · have b1 : ((s[i].toNat : Int) == (q[j].toNat : Int)) = true := by rw [he]; simp
            have HF := Lib.hid (Lib.indexAny_hit HN.out HX.out (List.contains_iff_mem.2 (by rw [← he]; exact Array.getElem_mem_toList _)))
            clear he
            go_wp2_with fail
            go_quiet (fail)
            go_wp2_with fail
            go_ret
            exact ⟨by rw [HF.out]; rfl, HBx.out _⟩
          · have b1 : ((s[i].toNat : Int) == (q[j].toNat : Int)) = false := beq_eq_false_iff_ne.2 fun h => he (UInt8.toNat_inj.1 (by omega))
            have HJ2 : Hid (∀ m (hm : m < q.size), m < j + 1 → q[m] ≠ s[i]) := Lib.hid fun m hm h => by
              by_cases h1 : m = j
              · subst h1; exact he
              · exact HJ.out m hm (by omega)
            clear he
            go_wp2_with fail
            go_quiet (fail)
            go_wp2_with fail
            go_roundw
            case rel => exact ⟨j + 1, by go_num, by omega, HJ2, Lib.hid (HBx.out _)⟩
            case measure => simp [intOf]; omega
        · obtain rfl : j = q.size := by omega
          have hnc : q.data.toList.contains s[i] = false := by
            rw [Bool.eq_false_iff]
            intro h
            obtain ⟨m, hm, he⟩ := List.getElem_of_mem (List.contains_iff_mem.1 h)
            have hm2 : m < q.size := by rw [← len_eq]; exact hm
            exact HJ.out m hm2 hm2 he
          have HN2 := Lib.hid (HN.out.succ HX.out hnc)
          clear hnc
          go_wp2_with fail
          go_roundw
          case rel => exact ⟨i + 1, by go_num, by omega, HN2, HB⟩
          case measure => simp [intOf]; omega
    · obtain rfl : i = s.size := by omega
      have HF := Lib.hid (Lib.indexAny_none (s := s.data.toList) (chars := q.data.toList) (by rw [len_eq]; exact HN.out))
      go_wp2_with fail
      go_ret
      exact ⟨by rw [HF.out]; rfl, HB.out⟩
/-! ### What was made -/
/-- A []string; where it lies, S holds. -/
def QStr (S : Nat → Prop) (w : World) (v : Value) (L : List ByteArray) : Prop :=
  ∃ oa cap, v = .slice oa L.length cap ∧ (0 < L.length → ∃ a, oa = some a) ∧ ∀ a, oa = some a → 0 < L.length → (S a.block ∧ a = ⟨a.block, 0, none⟩) ∧ ∀ i, i < L.length → w.cell? (a.add i) = some (.string (L.getD i ⟨#[]⟩))
theorem QStr.keep {S S' : Nat → Prop} {w w' : World} {v : Value} {L : List ByteArray} (h : QStr S w v L) (hk : ∀ b, S b → S' b ∧ w'.heap[b]? = w.heap[b]?) : QStr S' w' v L := by
  obtain ⟨oa, cap, h1, h2, h3⟩ := h
  refine ⟨oa, cap, h1, h2, fun a ha h0 => ?_⟩
  obtain ⟨g1, g2⟩ := h3 a ha h0
  exact ⟨⟨(hk _ g1.1).1, g1.2⟩, fun i hi => (World.cell?_of_block (w := w) (a := a.add i) (by rw [padd_block]; exact (hk _ g1.1).2)).trans (g2 i hi)⟩
def QPrm (S : Nat → Prop) (w : World) (v : Value) (L : List Prm) : Prop :=
  ∃ oa cap, v = .slice oa L.length cap ∧ (0 < L.length → ∃ a, oa = some a) ∧ ∀ a, oa = some a → 0 < L.length → (S a.block ∧ a = ⟨a.block, 0, none⟩) ∧ ∀ i, i < L.length → w.cell? (a.add (i * 2)) = some (.string (L.getD i prm0).name) ∧ ∃ u, w.cell? ((a.add (i * 2)).add 1) = some u ∧ QStr S w u (L.getD i prm0).vals
theorem QPrm.keep {S S' : Nat → Prop} {w w' : World} {v : Value} {L : List Prm} (h : QPrm S w v L) (hk : ∀ b, S b → S' b ∧ w'.heap[b]? = w.heap[b]?) : QPrm S' w' v L := by
  obtain ⟨oa, cap, h1, h2, h3⟩ := h
  refine ⟨oa, cap, h1, h2, fun a ha h0 => ?_⟩
  obtain ⟨g1, g2⟩ := h3 a ha h0
  refine ⟨⟨(hk _ g1.1).1, g1.2⟩, fun i hi => ?_⟩
  obtain ⟨k1, u, k2, k3⟩ := g2 i hi
  exact ⟨(World.cell?_of_block (w := w) (a := a.add (i * 2)) (by rw [padd_block]; exact (hk _ g1.1).2)).trans k1, u, (World.cell?_of_block (w := w) (a := (a.add (i * 2)).add 1) (by rw [padd_block, padd_block]; exact (hk _ g1.1).2)).trans k2, k3.keep hk⟩
def QLn (S : Nat → Prop) (w : World) (v : Value) (L : List Ln) : Prop :=
  ∃ oa cap, v = .slice oa L.length cap ∧ (0 < L.length → ∃ a, oa = some a) ∧ ∀ a, oa = some a → 0 < L.length → (S a.block ∧ a = ⟨a.block, 0, none⟩) ∧ ∀ i, i < L.length → w.cell? (a.add (i * 3)) = some (.string (L.getD i ln0).name) ∧ (∃ u, w.cell? ((a.add (i * 3)).add 1) = some u ∧ QPrm S w u (L.getD i ln0).prms) ∧ w.cell? ((a.add (i * 3)).add 2) = some (.string (L.getD i ln0).value)
theorem QLn.keep {S S' : Nat → Prop} {w w' : World} {v : Value} {L : List Ln} (h : QLn S w v L) (hk : ∀ b, S b → S' b ∧ w'.heap[b]? = w.heap[b]?) : QLn S' w' v L := by
  obtain ⟨oa, cap, h1, h2, h3⟩ := h
  refine ⟨oa, cap, h1, h2, fun a ha h0 => ?_⟩
  obtain ⟨g1, g2⟩ := h3 a ha h0
  refine ⟨⟨(hk _ g1.1).1, g1.2⟩, fun i hi => ?_⟩
  obtain ⟨k1, ⟨u, k2, k3⟩, k4⟩ := g2 i hi
  exact ⟨(World.cell?_of_block (w := w) (a := a.add (i * 3)) (by rw [padd_block]; exact (hk _ g1.1).2)).trans k1, ⟨u, (World.cell?_of_block (w := w) (a := (a.add (i * 3)).add 1) (by rw [padd_block, padd_block]; exact (hk _ g1.1).2)).trans k2, k3.keep hk⟩, (World.cell?_of_block (w := w) (a := (a.add (i * 3)).add 2) (by rw [padd_block, padd_block]; exact (hk _ g1.1).2)).trans k4⟩
def QPart (S : Nat → Prop) : Nat → World → Value → Value → Part → Prop
  | 0, _, u, v, p => (∃ oa cap, u = .slice oa p.lines.length cap) ∧ ∃ oa cap, v = .slice oa p.parts.length cap
  | k + 1, w, u, v, p => QLn S w u p.lines ∧ ∃ oa cap, v = .slice oa p.parts.length cap ∧ (0 < p.parts.length → ∃ a, oa = some a) ∧ ∀ a, oa = some a → 0 < p.parts.length → (S a.block ∧ a = ⟨a.block, 0, none⟩) ∧ ∀ i, i < p.parts.length → w.cell? (a.add (i * 3)) = some (.string (p.parts.getD i part0).name) ∧ ∃ u2 v2, w.cell? ((a.add (i * 3)).add 1) = some u2 ∧ w.cell? ((a.add (i * 3)).add 2) = some v2 ∧ QPart S k w u2 v2 (p.parts.getD i part0)
theorem QPart.keep {S S' : Nat → Prop} : ∀ {k : Nat} {w w' : World} {u v : Value} {p : Part}, QPart S k w u v p → (∀ b, S b → S' b ∧ w'.heap[b]? = w.heap[b]?) → QPart S' k w' u v p := by
  intro k
  induction k with
  | zero => intro w w' u v p h _; exact h
  | succ k ih =>
    intro w w' u v p h hk
    obtain ⟨h0, oa, cap, h1, h2, h3⟩ := h
    refine ⟨h0.keep hk, oa, cap, h1, h2, fun a ha hp => ?_⟩
    obtain ⟨g1, g2⟩ := h3 a ha hp
    refine ⟨⟨(hk _ g1.1).1, g1.2⟩, fun i hi => ?_⟩
    obtain ⟨k1, u2, v2, k2, k3, k4⟩ := g2 i hi
    exact ⟨(World.cell?_of_block (w := w) (a := a.add (i * 3)) (by rw [padd_block]; exact (hk _ g1.1).2)).trans k1, u2, v2, (World.cell?_of_block (w := w) (a := (a.add (i * 3)).add 1) (by rw [padd_block, padd_block]; exact (hk _ g1.1).2)).trans k2, (World.cell?_of_block (w := w) (a := (a.add (i * 3)).add 2) (by rw [padd_block, padd_block]; exact (hk _ g1.1).2)).trans k3, ih k4 hk⟩
theorem QStr.nil (S : Nat → Prop) (w : World) : QStr S w (.slice none 0 0) [] := ⟨none, 0, rfl, fun h => absurd h (Nat.lt_irrefl 0), fun a h => by cases h⟩
theorem QPrm.nil (S : Nat → Prop) (w : World) : QPrm S w (.slice none 0 0) [] := ⟨none, 0, rfl, fun h => absurd h (Nat.lt_irrefl 0), fun a h => by cases h⟩
theorem QLn.nil (S : Nat → Prop) (w : World) : QLn S w (.slice none 0 0) [] := ⟨none, 0, rfl, fun h => absurd h (Nat.lt_irrefl 0), fun a h => by cases h⟩
theorem QPart.nil (S : Nat → Prop) (w : World) (k : Nat) : QPart S k w (.slice none 0 0) (.slice none 0 0) part0 := by
  cases k with
  | zero => exact ⟨⟨none, 0, rfl⟩, none, 0, rfl⟩
  | succ k => exact ⟨QLn.nil S w, none, 0, rfl, fun h => absurd h (Nat.lt_irrefl 0), fun a h => by cases h⟩
end Go.Proofs.YtidgahnamdhflaaDoor
