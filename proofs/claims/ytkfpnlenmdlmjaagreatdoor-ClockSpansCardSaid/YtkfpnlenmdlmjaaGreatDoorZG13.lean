/- The document's ParseSpan. Printed by a program of mine. plain.ClockParseSpan; the law ClockSpans. -/
import Derived.Test.YtkfpnlenmdlmjaaGreatDoorZSpnC
import Derived.Test.YtkfpnlenmdlmjaaGreatDoorZPerG
import Derived.Test.YtkfpnlenmdlmjaaGreatDoorZClkH
import Derived.Deep.CutRange
namespace Go.Proofs.YtkfpnlenmdlmjaaGreatDoor
open Go.RowKit Scm Go.Shelf
theorem rparseP_any (s : ByteArray) (w : World) (hs : s.size ≤ 9223372036854775807) : Calls Tryz.prog 36 #[.string s] w (PerR (perF s.data.toList) w) := by
  rcases hB : isB s 0 45 with _ | _
  · exact rparse_no s w hs hB
  · exact rparse_yes s w hs hB
def RsnPost (s : ByteArray) (w : World) (e : Ending) (w' : World) : Prop := ∃ P, SpR s P ∧ e = .returned (.tuple #[.int .i64 P.from_, .int .i64 P.to_, .agg #[.int .i64 P.err, .int .i64 P.place]]) ∧ Below w.heap.size w w'
theorem RsnPost.fin {s : ByteArray} {w : World} {e : Ending} {w' : World} (P : SpP) (h1 : SpR s P) (h2 : e = .returned (.tuple #[.int .i64 P.from_, .int .i64 P.to_, .agg #[.int .i64 P.err, .int .i64 P.place]])) (h4 : Below w.heap.size w w') : RsnPost s w e w' := ⟨P, h1, h2, h4⟩
theorem hasP_or (a : ByteArray) : (hasP a = true ∧ 0 < a.size ∧ a.toList.isEmpty = false ∧ ∀ h : 0 < a.size, a[0] = 80) ∨ (hasP a = false ∧ a.toList.isEmpty = true) ∨ (hasP a = false ∧ 0 < a.size ∧ a.toList.isEmpty = false ∧ ∀ h : 0 < a.size, a[0] ≠ 80) := by
  rcases Nat.eq_zero_or_pos a.size with h | h
  · have e : a.data.toList = [] := List.eq_nil_of_length_eq_zero (by rw [lenT]; exact h)
    exact .inr (.inl ⟨isB_end (by omega), by rw [ByteArray.toList_eq, e]; rfl⟩)
  · have e : a.toList.isEmpty = false := by
      rw [ByteArray.toList_eq]
      cases hl : a.data.toList with
      | nil => have q := lenT a; rw [hl] at q; simp at q; omega
      | cons x l => rfl
    by_cases hc : a[0] = 80
    · exact .inl ⟨isB_yes h hc, h, e, fun _ => hc⟩
    · exact .inr (.inr ⟨isB_no h hc, h, e, fun _ => hc⟩)
theorem Five.put {B : Nat} {v : Nat → Int} {x : World} (h : Five B v x) (v0 v1 v2 v3 v4 : Int) : Five B (fun i => match i with | 0 => v0 | 1 => v1 | 2 => v2 | 3 => v3 | _ => v4) (((((x.setCell ⟨B, 0, none⟩ (.int .i64 v0)).setCell ⟨B, 1, none⟩ (.int .i64 v1)).setCell ⟨B, 2, none⟩ (.int .i64 v2)).setCell ⟨B, 3, none⟩ (.int .i64 v3)).setCell ⟨B, 4, none⟩ (.int .i64 v4)) := by
  have q := set_five x B (.int .i64 v0) (.int .i64 v1) (.int .i64 v2) (.int .i64 v3) (.int .i64 v4) _ _ _ _ _ (h.2 0 (by omega)).1 (h.2 1 (by omega)).1 (h.2 2 (by omega)).1 (h.2 3 (by omega)).1 (h.2 4 (by omega)).1
  refine ⟨by simp [World.setCell]; exact h.1, fun i hi => ⟨?_, by rw [World.frozen?_setCell, World.frozen?_setCell, World.frozen?_setCell, World.frozen?_setCell, World.frozen?_setCell]; exact (h.2 i hi).2⟩⟩
  match i, hi with
  | 0, _ => exact q.1
  | 1, _ => exact q.2.1
  | 2, _ => exact q.2.2.1
  | 3, _ => exact q.2.2.2.1
  | 4, _ => exact q.2.2.2.2
/-- How the document's reading of a span stands: the answer's box, the two periods' boxes. -/
def SD (w : World) (e p : Int) (vp vq : Nat → Int) (x : World) : Prop := Below w.heap.size w x ∧ L2 w.heap.size (.int .i64 e) (.int .i64 p) x ∧ Five (w.heap.size + 1) vp x ∧ Five (w.heap.size + 1 + 1) vq x
theorem SD.call {w : World} {e p : Int} {vp vq : Nat → Int} {x x' : World} (h : SD w e p vp vq x) (hb : Below x.heap.size x x') : SD w e p vp vq x' := ⟨thenB h.1 hb, h.2.1.call hb, h.2.2.1.call hb, h.2.2.2.call hb⟩
theorem SD.drewN {w : World} {e p : Int} {vp vq : Nat → Int} {x : World} (h : SD w e p vp vq x) (q : Nat) : SD w e p vp vq (x.drewN q) := h.call (below_drewN (Below.refl _ _) q)
theorem SD.putb {w : World} {e p : Int} {vp vq : Nat → Int} {x : World} (h : SD w e p vp vq x) (e' p' : Int) : SD w e' p' vp vq ((x.setCell ⟨w.heap.size, 0, none⟩ (.int .i64 e')).setCell ⟨w.heap.size, 1, none⟩ (.int .i64 p')) := by
  obtain ⟨h1, h2, h3, h4⟩ := h
  exact ⟨(h1.setCell (p := ⟨w.heap.size, 0, none⟩) (Nat.le_refl _) _).setCell (p := ⟨w.heap.size, 1, none⟩) (Nat.le_refl _) _, h2.put _ _, (h3.far (p := ⟨w.heap.size, 0, none⟩) (by show w.heap.size ≠ w.heap.size + 1; omega) _).far (p := ⟨w.heap.size, 1, none⟩) (by show w.heap.size ≠ w.heap.size + 1; omega) _, (h4.far (p := ⟨w.heap.size, 0, none⟩) (by show w.heap.size ≠ w.heap.size + 1 + 1; omega) _).far (p := ⟨w.heap.size, 1, none⟩) (by show w.heap.size ≠ w.heap.size + 1 + 1; omega) _⟩
theorem SD.put1 {w : World} {e p : Int} {vp vq : Nat → Int} {x : World} (h : SD w e p vp vq x) (p' : Int) : SD w e p' vp vq (x.setCell ⟨w.heap.size, 1, none⟩ (.int .i64 p')) := by
  obtain ⟨h1, h2, h3, h4⟩ := h
  obtain ⟨a0, ⟨a1, a2⟩, ⟨a3, a4⟩⟩ := h2
  exact ⟨h1.setCell (p := ⟨w.heap.size, 1, none⟩) (Nat.le_refl _) _, ⟨by simp [World.setCell]; exact a0, ⟨by rw [far3 _ _ 0 1 _ (by decide)]; exact a1, by rw [World.frozen?_setCell]; exact a2⟩, ⟨World.cell?_setCell_same _ _ _ a3, by rw [World.frozen?_setCell]; exact a4⟩⟩, h3.far (p := ⟨w.heap.size, 1, none⟩) (by show w.heap.size ≠ w.heap.size + 1; omega) _, h4.far (p := ⟨w.heap.size, 1, none⟩) (by show w.heap.size ≠ w.heap.size + 1 + 1; omega) _⟩
theorem SD.putp {w : World} {e p : Int} {vp vq : Nat → Int} {x : World} (h : SD w e p vp vq x) (v0 v1 v2 v3 v4 : Int) : SD w e p (fun i => match i with | 0 => v0 | 1 => v1 | 2 => v2 | 3 => v3 | _ => v4) vq (((((x.setCell ⟨w.heap.size + 1, 0, none⟩ (.int .i64 v0)).setCell ⟨w.heap.size + 1, 1, none⟩ (.int .i64 v1)).setCell ⟨w.heap.size + 1, 2, none⟩ (.int .i64 v2)).setCell ⟨w.heap.size + 1, 3, none⟩ (.int .i64 v3)).setCell ⟨w.heap.size + 1, 4, none⟩ (.int .i64 v4)) := by
  obtain ⟨h1, h2, h3, h4⟩ := h
  have n1 : w.heap.size ≠ w.heap.size + 1 := by omega
  have n2 : w.heap.size + 1 ≠ w.heap.size + 1 + 1 := by omega
  have b : w.heap.size ≤ w.heap.size + 1 := by omega
  exact ⟨((((h1.setCell (p := ⟨w.heap.size + 1, 0, none⟩) b _).setCell (p := ⟨w.heap.size + 1, 1, none⟩) b _).setCell (p := ⟨w.heap.size + 1, 2, none⟩) b _).setCell (p := ⟨w.heap.size + 1, 3, none⟩) b _).setCell (p := ⟨w.heap.size + 1, 4, none⟩) b _,
    ((((h2.far (p := ⟨w.heap.size + 1, 0, none⟩) n1 _).far (p := ⟨w.heap.size + 1, 1, none⟩) n1 _).far (p := ⟨w.heap.size + 1, 2, none⟩) n1 _).far (p := ⟨w.heap.size + 1, 3, none⟩) n1 _).far (p := ⟨w.heap.size + 1, 4, none⟩) n1 _,
    h3.put _ _ _ _ _, ((((h4.far (p := ⟨w.heap.size + 1, 0, none⟩) n2 _).far (p := ⟨w.heap.size + 1, 1, none⟩) n2 _).far (p := ⟨w.heap.size + 1, 2, none⟩) n2 _).far (p := ⟨w.heap.size + 1, 3, none⟩) n2 _).far (p := ⟨w.heap.size + 1, 4, none⟩) n2 _⟩
theorem SD.putq {w : World} {e p : Int} {vp vq : Nat → Int} {x : World} (h : SD w e p vp vq x) (v0 v1 v2 v3 v4 : Int) : SD w e p vp (fun i => match i with | 0 => v0 | 1 => v1 | 2 => v2 | 3 => v3 | _ => v4) (((((x.setCell ⟨w.heap.size + 1 + 1, 0, none⟩ (.int .i64 v0)).setCell ⟨w.heap.size + 1 + 1, 1, none⟩ (.int .i64 v1)).setCell ⟨w.heap.size + 1 + 1, 2, none⟩ (.int .i64 v2)).setCell ⟨w.heap.size + 1 + 1, 3, none⟩ (.int .i64 v3)).setCell ⟨w.heap.size + 1 + 1, 4, none⟩ (.int .i64 v4)) := by
  obtain ⟨h1, h2, h3, h4⟩ := h
  have n1 : w.heap.size ≠ w.heap.size + 1 + 1 := by omega
  have n2 : w.heap.size + 1 + 1 ≠ w.heap.size + 1 := by omega
  have b : w.heap.size ≤ w.heap.size + 1 + 1 := by omega
  exact ⟨((((h1.setCell (p := ⟨w.heap.size + 1 + 1, 0, none⟩) b _).setCell (p := ⟨w.heap.size + 1 + 1, 1, none⟩) b _).setCell (p := ⟨w.heap.size + 1 + 1, 2, none⟩) b _).setCell (p := ⟨w.heap.size + 1 + 1, 3, none⟩) b _).setCell (p := ⟨w.heap.size + 1 + 1, 4, none⟩) b _,
    ((((h2.far (p := ⟨w.heap.size + 1 + 1, 0, none⟩) n1 _).far (p := ⟨w.heap.size + 1 + 1, 1, none⟩) n1 _).far (p := ⟨w.heap.size + 1 + 1, 2, none⟩) n1 _).far (p := ⟨w.heap.size + 1 + 1, 3, none⟩) n1 _).far (p := ⟨w.heap.size + 1 + 1, 4, none⟩) n1 _,
    ((((h3.far (p := ⟨w.heap.size + 1 + 1, 0, none⟩) n2 _).far (p := ⟨w.heap.size + 1 + 1, 1, none⟩) n2 _).far (p := ⟨w.heap.size + 1 + 1, 2, none⟩) n2 _).far (p := ⟨w.heap.size + 1 + 1, 3, none⟩) n2 _).far (p := ⟨w.heap.size + 1 + 1, 4, none⟩) n2 _, h4.put _ _ _ _ _⟩
theorem SD.new (w : World) (t1 t2 t3 : TypeId) (q : Nat) : SD w 0 0 zero zero ((((w.alloc (.cells #[.int .i64 0, .int .i64 0] t1)).drewN q).alloc (.cells #[.int .i64 0, .int .i64 0, .int .i64 0, .int .i64 0, .int .i64 0] t2)).alloc (.cells #[.int .i64 0, .int .i64 0, .int .i64 0, .int .i64 0, .int .i64 0] t3)) := by
  have b1 : Below w.heap.size w (w.alloc (.cells #[.int .i64 0, .int .i64 0] t1)) := (Below.refl _ _).alloc (Nat.le_refl _) _
  have f1 := Five.new ((w.alloc (.cells #[.int .i64 0, .int .i64 0] t1)).drewN q) t2
  have f2 := Five.new (((w.alloc (.cells #[.int .i64 0, .int .i64 0] t1)).drewN q).alloc (.cells #[.int .i64 0, .int .i64 0, .int .i64 0, .int .i64 0, .int .i64 0] t2)) t3
  have e1 : ((w.alloc (.cells #[.int .i64 0, .int .i64 0] t1)).drewN q).heap.size = w.heap.size + 1 := by simp
  rw [e1] at f1
  rw [World.size_alloc, e1] at f2
  have b2 : Below (w.alloc (.cells #[.int .i64 0, .int .i64 0] t1)).heap.size (w.alloc (.cells #[.int .i64 0, .int .i64 0] t1)) ((w.alloc (.cells #[.int .i64 0, .int .i64 0] t1)).drewN q) := below_drewN (Below.refl _ _) q
  exact ⟨thenB (thenB (thenB b1 b2) ((Below.refl _ _).alloc (Nat.le_refl _) _)) ((Below.refl _ _).alloc (Nat.le_refl _) _), (((L2.new w t1).call b2).call ((Below.refl _ _).alloc (Nat.le_refl _) _)).call ((Below.refl _ _).alloc (Nat.le_refl _) _), f1.call ((Below.refl _ _).alloc (Nat.le_refl _) _), f2⟩
theorem SD.all {w : World} {e p : Int} {vp vq : Nat → Int} {x : World} (h : SD w e p vp vq x) : x.cell? ⟨w.heap.size, 0, none⟩ = some (.int .i64 e) ∧ x.frozen? ⟨w.heap.size, 0, none⟩ = false ∧ x.cell? ⟨w.heap.size, 1, none⟩ = some (.int .i64 p) ∧ x.frozen? ⟨w.heap.size, 1, none⟩ = false ∧ x.cell? ⟨w.heap.size + 1, 0, none⟩ = some (.int .i64 (vp 0)) ∧ x.frozen? ⟨w.heap.size + 1, 0, none⟩ = false ∧ x.cell? ⟨w.heap.size + 1, 1, none⟩ = some (.int .i64 (vp 1)) ∧ x.frozen? ⟨w.heap.size + 1, 1, none⟩ = false ∧ x.cell? ⟨w.heap.size + 1, 2, none⟩ = some (.int .i64 (vp 2)) ∧ x.frozen? ⟨w.heap.size + 1, 2, none⟩ = false ∧ x.cell? ⟨w.heap.size + 1, 3, none⟩ = some (.int .i64 (vp 3)) ∧ x.frozen? ⟨w.heap.size + 1, 3, none⟩ = false ∧ x.cell? ⟨w.heap.size + 1, 4, none⟩ = some (.int .i64 (vp 4)) ∧ x.frozen? ⟨w.heap.size + 1, 4, none⟩ = false ∧ x.cell? ⟨w.heap.size + 1 + 1, 0, none⟩ = some (.int .i64 (vq 0)) ∧ x.frozen? ⟨w.heap.size + 1 + 1, 0, none⟩ = false ∧ x.cell? ⟨w.heap.size + 1 + 1, 1, none⟩ = some (.int .i64 (vq 1)) ∧ x.frozen? ⟨w.heap.size + 1 + 1, 1, none⟩ = false ∧ x.cell? ⟨w.heap.size + 1 + 1, 2, none⟩ = some (.int .i64 (vq 2)) ∧ x.frozen? ⟨w.heap.size + 1 + 1, 2, none⟩ = false ∧ x.cell? ⟨w.heap.size + 1 + 1, 3, none⟩ = some (.int .i64 (vq 3)) ∧ x.frozen? ⟨w.heap.size + 1 + 1, 3, none⟩ = false ∧ x.cell? ⟨w.heap.size + 1 + 1, 4, none⟩ = some (.int .i64 (vq 4)) ∧ x.frozen? ⟨w.heap.size + 1 + 1, 4, none⟩ = false :=
  ⟨h.2.1.2.1.1, h.2.1.2.1.2, h.2.1.2.2.1, h.2.1.2.2.2, (h.2.2.1.2 0 (by omega)).1, (h.2.2.1.2 0 (by omega)).2, (h.2.2.1.2 1 (by omega)).1, (h.2.2.1.2 1 (by omega)).2, (h.2.2.1.2 2 (by omega)).1, (h.2.2.1.2 2 (by omega)).2, (h.2.2.1.2 3 (by omega)).1, (h.2.2.1.2 3 (by omega)).2, (h.2.2.1.2 4 (by omega)).1, (h.2.2.1.2 4 (by omega)).2, (h.2.2.2.2 0 (by omega)).1, (h.2.2.2.2 0 (by omega)).2, (h.2.2.2.2 1 (by omega)).1, (h.2.2.2.2 1 (by omega)).2, (h.2.2.2.2 2 (by omega)).1, (h.2.2.2.2 2 (by omega)).2, (h.2.2.2.2 3 (by omega)).1, (h.2.2.2.2 3 (by omega)).2, (h.2.2.2.2 4 (by omega)).1, (h.2.2.2.2 4 (by omega)).2⟩
theorem SD.below {w : World} {e p : Int} {vp vq : Nat → Int} {x : World} (h : SD w e p vp vq x) : Below w.heap.size w x := h.1
set_option maxRecDepth 100000 in
set_option maxHeartbeats 32000000 in
theorem rspan_any (s : ByteArray) (w : World) (hs : s.size ≤ 9223372036854775807) : Calls Tryz.prog 16 #[.string s] w (RsnPost s w) := by
  have HL0 := Lib.hid (L2.new w 29)
  have HB0 : Hid (Below w.heap.size w (w.alloc (.cells #[.int .i64 0, .int .i64 0] 29))) := Lib.hid ((Below.refl _ _).alloc (Nat.le_refl _) _)
  go_enter Tryz.func16, Tryz.ntmps16
  go_wp2_with fail
  go_loopw [5] (fun c wr => ∃ j : Nat, c = .int .i64 (j : Int) ∧ j ≤ s.size ∧ Hid (∀ i, i < j → s.data.toList[i]? ≠ some 47) ∧ wr = w.alloc (.cells #[.int .i64 0, .int .i64 0] 29)) (fun c _ => s.size - (intOf c).toNat)
  case atStart => exact ⟨0, rfl, Nat.zero_le _, Lib.hid (fun i hi => absurd hi (Nat.not_lt_zero i)), rfl⟩
  case round =>
    obtain ⟨j, rfl, hj, HN, rfl⟩ := hrel
    by_cases hlt : j < s.size
    · have hd : decide (j < s.size) = true := decide_eq_true hlt
      have hd2 : decide ((j : Int) < (s.size : Int)) = true := decide_eq_true (by omega)
      by_cases hc : s[j] = 47
      · have hcb : (s[j].toNat == 47) = true := by rw [hc]; rfl
        have hcbi : ((s[j].toNat : Int) == 47) = true := by rw [hc]; rfl
        have k1 : IntKind.i64.wrap ((j : Int) + 1) = (j : Int) + 1 := IntWalk.i64_in _ (by omega)
        have k2 : (0 : Int) ≤ (j : Int) + 1 := by omega
        have k3 : ((j : Int) + 1).toNat = j + 1 := by omega
        have k4 : (j : Int) ≤ (s.size : Int) := by omega
        have k5 : (j : Int) + 1 ≤ (s.size : Int) := by omega
        have hne : ((j : Int) == (s.size : Int)) = false := by simp; omega
        have hne2 : (j == s.size) = false := by simp; omega
        have HK : Hid (CutAt s j) := Lib.hid ⟨List.getElem?_eq_some_iff.2 ⟨by rw [lenT]; exact hlt, hc⟩, HN.out⟩
        go_wp2_with fail
        go_quiet (fail)
        go_upto_region 8 with fail
        obtain ⟨a, hea⟩ : ∃ a, s.extract 0 j = a := ⟨_, rfl⟩
        obtain ⟨b, heb⟩ : ∃ b, s.extract (j + 1) s.size = b := ⟨_, rfl⟩
        rw [hea, heb]
        have HS : Hid (∀ P, SpRk a b j P → SpR s P) := Lib.hid fun P h => .inr ⟨j, HK.out, by rw [hea, heb]; exact h⟩
        have hsa : a.size ≤ 9223372036854775807 := by rw [← hea, ByteArray.size_extract]; omega
        have hsb : b.size ≤ 9223372036854775807 := by rw [← heb, ByteArray.size_extract]; omega
        have HD0 := Lib.hid (SD.new w 29 43 43 nq)
        clear hea heb hd hd2 hcb hcbi k1 k2 k3 k4 k5 hne hne2 HK hc hlt HN hj
        go_cut [10, 11] from 38 to 51 (fun s10 s11 wx => (∃ T : Bool, s10 = .bool T ∧ Hid (T = hasP a)) ∧ (∃ T : Bool, s11 = .bool T ∧ Hid (T = hasP b)) ∧ Hid (SD w 0 0 zero zero wx))
        case first =>
          rcases hasP_or a with ⟨pa, a1, a2, a3⟩ | ⟨pa, a2⟩ | ⟨pa, a1, a2, a3⟩ <;> rcases hasP_or b with ⟨pb, b1, b2, b3⟩ | ⟨pb, b2⟩ | ⟨pb, b1, b2, b3⟩
          all_goals
            have PA := Lib.hid pa
            have PB := Lib.hid pb
            clear pa pb
            (try have a4 := a3 a1)
            (try have b4 := b3 b1)
            (try clear a3)
            (try clear b3)
            (first | (have a5 : (a[0].toNat == 80) = true := by rw [a4]; rfl) | (have a5 : (a[0].toNat == 80) = false := by rw [Bool.eq_false_iff]; intro e; exact a4 (UInt8.toNat_inj.1 (by simpa using e))) | skip)
            (first | (have b5 : (b[0].toNat == 80) = true := by rw [b4]; rfl) | (have b5 : (b[0].toNat == 80) = false := by rw [Bool.eq_false_iff]; intro e; exact b4 (UInt8.toNat_inj.1 (by simpa using e))) | skip)
            (first | (have a6 : ((a[0].toNat : Int) == 80) = true := by rw [a4]; rfl) | (have a6 : ((a[0].toNat : Int) == 80) = false := by rw [Bool.eq_false_iff]; intro e; have e2 : ((a[0].toNat : Nat) : Int) = 80 := (by simpa using e); exact a4 (UInt8.toNat_inj.1 (by show a[0].toNat = 80; omega))) | skip)
            (first | (have b6 : ((b[0].toNat : Int) == 80) = true := by rw [b4]; rfl) | (have b6 : ((b[0].toNat : Int) == 80) = false := by rw [Bool.eq_false_iff]; intro e; have e2 : ((b[0].toNat : Nat) : Int) = 80 := (by simpa using e); exact b4 (UInt8.toNat_inj.1 (by show b[0].toNat = 80; omega))) | skip)
            (try clear a4)
            (try clear b4)
            go_quiet (fail)
            go_wp2_with fail
            go_meet
            exact ⟨⟨_, rfl, Lib.hid PA.out.symm⟩, ⟨_, rfl, Lib.hid PB.out.symm⟩, Lib.hid (HD0.out.drewN _)⟩
        case rest =>
          obtain ⟨⟨TA, rfl, HTA⟩, ⟨TB, rfl, HTB⟩, HD⟩ := hcut
          clear HD0 HL0 HB0
          obtain ⟨-, ⟨-, ⟨c0, f0⟩, ⟨c1, f1⟩⟩, ⟨z1, d5⟩, ⟨z2, e5⟩⟩ := HD.out
          rcases TA with _ | _
          · rcases TB with _ | _
            · skip
              obtain ⟨Ta, hTa⟩ : ∃ q, (ptP a).loc = q := ⟨_, rfl⟩; have bta := ptP_loc a; rw [hTa] at bta; obtain ⟨lta, uta⟩ := bta
              by_cases hae : (ptP a).err = 0
              · skip
                obtain ⟨Tb, hTb⟩ : ∃ q, (ptP b).loc = q := ⟨_, rfl⟩; have btb := ptP_loc b; rw [hTb] at btb; obtain ⟨ltb, utb⟩ := btb
                by_cases hbe : (ptP b).err = 0
                · have HP : Hid (SpRk a b j (endS Ta Tb 0)) := Lib.hid (by unfold SpRk; rw [if_neg (by rw [← HTA.out]; decide), if_neg (by rw [← HTB.out]; decide), if_neg (fun h => h hae), if_neg (fun h => h hbe), hTa, hTb])
                  have CTa : Hid (∀ w0, Calls Tryz.prog 37 #[.string a] w0 fun e w' => e = .returned (.tuple #[.int .i64 Ta, .agg #[.int .i64 0, .int .i64 (-1)]]) ∧ Below w0.heap.size w0 w') := Lib.hid fun w0 => by have q := rpt_any a w0 hsa; unfold RtPost at q; rw [ptP_place _ hae, hae, hTa] at q; exact q
                  have CTb : Hid (∀ w0, Calls Tryz.prog 37 #[.string b] w0 fun e w' => e = .returned (.tuple #[.int .i64 Tb, .agg #[.int .i64 0, .int .i64 (-1)]]) ∧ Below w0.heap.size w0 w') := Lib.hid fun w0 => by have q := rpt_any b w0 hsb; unfold RtPost at q; rw [ptP_place _ hbe, hbe, hTb] at q; exact q
                  clear hae hbe hTa hTb
                  by_cases ho : Tb < Ta
                  · have HO : Hid (SpRk a b j ⟨0, 0, 7, -1⟩) := Lib.hid (by have q := HP.out; rw [endS_order ho] at q; exact q)
                    have hod : decide (Tb < Ta) = true := decide_eq_true ho; clear ho
                    have CBA : Hid (∀ w0, Calls Tryz.prog 28 #[.int .i64 7] w0 fun e w' => e = .returned (.agg #[.int .i64 7, .int .i64 (-1)]) ∧ Below w0.heap.size w0 w') := Lib.hid fun w0 => badR_any _ w0
                    go_wp2_with (first
                      | (go_at_call 37; (with_reducible refine (CTa.out _).mono ?_); rintro e w3 ⟨rfl, hbz⟩; have hX := SD.call HD.out hbz; obtain ⟨c0, f0, c1, f1, p0, g0, p1, g1, p2, g2, p3, g3, p4, g4, q0, h0, q1, h1, q2, h2, q3, h3, q4, h4⟩ := SD.all hX; have H3 := Lib.hid (SD.putb hX 0 (-1)); clear hbz hX)
                      | (go_at_call 37; (with_reducible refine (CTb.out _).mono ?_); rintro e w4 ⟨rfl, hbz⟩; have hX := SD.call H3.out hbz; obtain ⟨c0, f0, c1, f1, p0, g0, p1, g1, p2, g2, p3, g3, p4, g4, q0, h0, q1, h1, q2, h2, q3, h3, q4, h4⟩ := SD.all hX; have H4 := Lib.hid (SD.putb hX 0 (-1)); clear hbz hX)
                      | (go_at_call 28; (with_reducible refine (CBA.out _).mono ?_); rintro e w9 ⟨rfl, hbz⟩; have hX := SD.call H4.out hbz; obtain ⟨c0, f0, c1, f1, p0, g0, p1, g1, p2, g2, p3, g3, p4, g4, q0, h0, q1, h1, q2, h2, q3, h3, q4, h4⟩ := SD.all hX; have H9 := Lib.hid (SD.putb hX 7 (-1)); clear hbz hX))
                    have hq := H9.out.2.1
                    exact bodyPost_ret (v := .tuple #[.int .i64 0, .int .i64 0, .agg #[.int .i64 7, .int .i64 (-1)]]) (by simp [results, Tryz.results16, go_sem, hq.2.1.1, hq.2.2.1]) rfl (RsnPost.fin ⟨0, 0, 7, -1⟩ (HS.out _ HO.out) rfl H9.out.1)
                  · have HO : Hid (SpRk a b j ⟨Ta, Tb, 0, -1⟩) := Lib.hid (by have q := HP.out; rw [endS_ok ho] at q; exact q)
                    have hod : decide (Tb < Ta) = false := decide_eq_false ho; clear ho
                    have CFI : Hid (∀ w0, Calls Tryz.prog 29 #[] w0 fun e w' => e = .returned (.agg #[.int .i64 0, .int .i64 (-1)]) ∧ Below w0.heap.size w0 w') := Lib.hid fineR_any
                    go_wp2_with (first
                      | (go_at_call 37; (with_reducible refine (CTa.out _).mono ?_); rintro e w3 ⟨rfl, hbz⟩; have hX := SD.call HD.out hbz; obtain ⟨c0, f0, c1, f1, p0, g0, p1, g1, p2, g2, p3, g3, p4, g4, q0, h0, q1, h1, q2, h2, q3, h3, q4, h4⟩ := SD.all hX; have H3 := Lib.hid (SD.putb hX 0 (-1)); clear hbz hX)
                      | (go_at_call 37; (with_reducible refine (CTb.out _).mono ?_); rintro e w4 ⟨rfl, hbz⟩; have hX := SD.call H3.out hbz; obtain ⟨c0, f0, c1, f1, p0, g0, p1, g1, p2, g2, p3, g3, p4, g4, q0, h0, q1, h1, q2, h2, q3, h3, q4, h4⟩ := SD.all hX; have H4 := Lib.hid (SD.putb hX 0 (-1)); clear hbz hX)
                      | (go_at_call 29; (with_reducible refine (CFI.out _).mono ?_); rintro e w9 ⟨rfl, hbz⟩; have hX := SD.call H4.out hbz; obtain ⟨c0, f0, c1, f1, p0, g0, p1, g1, p2, g2, p3, g3, p4, g4, q0, h0, q1, h1, q2, h2, q3, h3, q4, h4⟩ := SD.all hX; have H9 := Lib.hid (SD.putb hX 0 (-1)); clear hbz hX))
                    have hq := H9.out.2.1
                    exact bodyPost_ret (v := .tuple #[.int .i64 Ta, .int .i64 Tb, .agg #[.int .i64 0, .int .i64 (-1)]]) (by simp [results, Tryz.results16, go_sem, hq.2.1.1, hq.2.2.1]) rfl (RsnPost.fin ⟨Ta, Tb, 0, -1⟩ (HS.out _ HO.out) rfl H9.out.1)
                · skip
                  obtain ⟨EE, hEE⟩ : ∃ q, (ptP b).err = q := ⟨_, rfl⟩; obtain ⟨PL, hPL⟩ : ∃ q, (ptP b).place = q := ⟨_, rfl⟩
                  have HP : Hid (SpRk a b j ⟨0, 0, EE, latE j PL⟩) := Lib.hid (by unfold SpRk; rw [if_neg (by rw [← HTA.out]; decide), if_neg (by rw [← HTB.out]; decide), if_neg (fun h => h hae), if_pos hbe, hEE, hPL])
                  have CTa : Hid (∀ w0, Calls Tryz.prog 37 #[.string a] w0 fun e w' => e = .returned (.tuple #[.int .i64 Ta, .agg #[.int .i64 0, .int .i64 (-1)]]) ∧ Below w0.heap.size w0 w') := Lib.hid fun w0 => by have q := rpt_any a w0 hsa; unfold RtPost at q; rw [ptP_place _ hae, hae, hTa] at q; exact q
                  have CTb : Hid (∀ w0, Calls Tryz.prog 37 #[.string b] w0 fun e w' => e = .returned (.tuple #[.int .i64 Tb, .agg #[.int .i64 EE, .int .i64 PL]]) ∧ Below w0.heap.size w0 w') := Lib.hid fun w0 => by have q := rpt_any b w0 hsb; unfold RtPost at q; rw [hTb, hEE, hPL] at q; exact q
                  have hxb : (EE == 0) = false := by rw [hEE] at hbe; simpa using hbe
                  clear hae hbe hTa hTb hEE hPL
                  by_cases hpl : 0 ≤ PL
                  · skip
                    obtain ⟨y1, hy1⟩ : ∃ q, IntKind.i64.wrap (PL + (j : Int)) = q := ⟨_, rfl⟩; obtain ⟨y2, hy2⟩ : ∃ q, IntKind.i64.wrap (y1 + 1) = q := ⟨_, rfl⟩
                    have HPY : Hid (SpRk a b j ⟨0, 0, EE, y2⟩) := Lib.hid (by have q := HP.out; rw [show latE j PL = y2 by (unfold latE lat; rw [if_pos hpl, hy1, hy2])] at q; exact q)
                    have hpd : decide (0 ≤ PL) = true := decide_eq_true hpl; clear hpl
                    go_wp2_with (first
                      | (go_at_call 37; (with_reducible refine (CTa.out _).mono ?_); rintro e w3 ⟨rfl, hbz⟩; have hX := SD.call HD.out hbz; obtain ⟨c0, f0, c1, f1, p0, g0, p1, g1, p2, g2, p3, g3, p4, g4, q0, h0, q1, h1, q2, h2, q3, h3, q4, h4⟩ := SD.all hX; have H3 := Lib.hid (SD.putb hX 0 (-1)); clear hbz hX)
                      | (go_at_call 37; (with_reducible refine (CTb.out _).mono ?_); rintro e w4 ⟨rfl, hbz⟩; have hX := SD.call H3.out hbz; obtain ⟨c0, f0, c1, f1, p0, g0, p1, g1, p2, g2, p3, g3, p4, g4, q0, h0, q1, h1, q2, h2, q3, h3, q4, h4⟩ := SD.all hX; have H4 := Lib.hid (SD.putb hX EE PL); clear hbz hX))
                    have HW := Lib.hid (SD.put1 H4.out y2)
                    obtain ⟨c0, f0, c1, f1, p0, g0, p1, g1, p2, g2, p3, g3, p4, g4, q0, h0, q1, h1, q2, h2, q3, h3, q4, h4⟩ := SD.all HW.out
                    go_region_with fail
                    all_goals
                      go_wp2_with fail
                      have HQ := Lib.hid (SD.putb HW.out EE (y2))
                      have hq := HQ.out.2.1
                      exact bodyPost_ret (v := .tuple #[.int .i64 0, .int .i64 0, .agg #[.int .i64 EE, .int .i64 (y2)]]) (by simp [results, Tryz.results16, go_sem, hq.2.1.1, hq.2.2.1]) rfl (RsnPost.fin ⟨0, 0, EE, y2⟩ (HS.out _ HPY.out) rfl HQ.out.1.drew)
                  · have HPY : Hid (SpRk a b j ⟨0, 0, EE, PL⟩) := Lib.hid (by have q := HP.out; rw [show latE j PL = PL from if_neg hpl] at q; exact q)
                    have hpd : decide (0 ≤ PL) = false := decide_eq_false hpl; clear hpl
                    go_wp2_with (first
                      | (go_at_call 37; (with_reducible refine (CTa.out _).mono ?_); rintro e w3 ⟨rfl, hbz⟩; have hX := SD.call HD.out hbz; obtain ⟨c0, f0, c1, f1, p0, g0, p1, g1, p2, g2, p3, g3, p4, g4, q0, h0, q1, h1, q2, h2, q3, h3, q4, h4⟩ := SD.all hX; have H3 := Lib.hid (SD.putb hX 0 (-1)); clear hbz hX)
                      | (go_at_call 37; (with_reducible refine (CTb.out _).mono ?_); rintro e w4 ⟨rfl, hbz⟩; have hX := SD.call H3.out hbz; obtain ⟨c0, f0, c1, f1, p0, g0, p1, g1, p2, g2, p3, g3, p4, g4, q0, h0, q1, h1, q2, h2, q3, h3, q4, h4⟩ := SD.all hX; have H4 := Lib.hid (SD.putb hX EE PL); clear hbz hX))
                    go_region_with fail
                    all_goals
                      go_wp2_with fail
                      have HQ := Lib.hid (SD.putb H4.out EE (PL))
                      have hq := HQ.out.2.1
                      exact bodyPost_ret (v := .tuple #[.int .i64 0, .int .i64 0, .agg #[.int .i64 EE, .int .i64 (PL)]]) (by simp [results, Tryz.results16, go_sem, hq.2.1.1, hq.2.2.1]) rfl (RsnPost.fin ⟨0, 0, EE, PL⟩ (HS.out _ HPY.out) rfl HQ.out.1.drew)
              · skip
                obtain ⟨EE, hEE⟩ : ∃ q, (ptP a).err = q := ⟨_, rfl⟩; obtain ⟨PL, hPL⟩ : ∃ q, (ptP a).place = q := ⟨_, rfl⟩
                have HP : Hid (SpRk a b j ⟨0, 0, EE, PL⟩) := Lib.hid (by unfold SpRk; rw [if_neg (by rw [← HTA.out]; decide), if_neg (by rw [← HTB.out]; decide), if_pos hae, hEE, hPL])
                have CTa : Hid (∀ w0, Calls Tryz.prog 37 #[.string a] w0 fun e w' => e = .returned (.tuple #[.int .i64 Ta, .agg #[.int .i64 EE, .int .i64 PL]]) ∧ Below w0.heap.size w0 w') := Lib.hid fun w0 => by have q := rpt_any a w0 hsa; unfold RtPost at q; rw [hTa, hEE, hPL] at q; exact q
                have hxb : (EE == 0) = false := by rw [hEE] at hae; simpa using hae
                clear hae hTa hEE hPL
                go_wp2_with (first
                  | (go_at_call 37; (with_reducible refine (CTa.out _).mono ?_); rintro e w3 ⟨rfl, hbz⟩; have hX := SD.call HD.out hbz; obtain ⟨c0, f0, c1, f1, p0, g0, p1, g1, p2, g2, p3, g3, p4, g4, q0, h0, q1, h1, q2, h2, q3, h3, q4, h4⟩ := SD.all hX; have H3 := Lib.hid (SD.putb hX EE PL); clear hbz hX))
                go_region_with fail
                all_goals
                  go_wp2_with fail
                  have HQ := Lib.hid (SD.putb H3.out EE (PL))
                  have hq := HQ.out.2.1
                  exact bodyPost_ret (v := .tuple #[.int .i64 0, .int .i64 0, .agg #[.int .i64 EE, .int .i64 (PL)]]) (by simp [results, Tryz.results16, go_sem, hq.2.1.1, hq.2.2.1]) rfl (RsnPost.fin ⟨0, 0, EE, PL⟩ (HS.out _ HP.out) rfl HQ.out.1.drew)
            · skip
              obtain ⟨Ta, hTa⟩ : ∃ q, (ptP a).loc = q := ⟨_, rfl⟩; have bta := ptP_loc a; rw [hTa] at bta; obtain ⟨lta, uta⟩ := bta
              by_cases hae : (ptP a).err = 0
              · skip
                obtain ⟨v0, hv0⟩ : ∃ q, (perF b.data.toList).v 0 = q := ⟨_, rfl⟩; have bb0 := perF_bd b.data.toList 0; rw [hv0] at bb0; obtain ⟨l0, u0⟩ := bb0
                obtain ⟨v1, hv1⟩ : ∃ q, (perF b.data.toList).v 1 = q := ⟨_, rfl⟩; have bb1 := perF_bd b.data.toList 1; rw [hv1] at bb1; obtain ⟨l1, u1⟩ := bb1
                obtain ⟨v2, hv2⟩ : ∃ q, (perF b.data.toList).v 2 = q := ⟨_, rfl⟩; have bb2 := perF_bd b.data.toList 2; rw [hv2] at bb2; obtain ⟨l2, u2⟩ := bb2
                obtain ⟨v3, hv3⟩ : ∃ q, (perF b.data.toList).v 3 = q := ⟨_, rfl⟩; have bb3 := perF_bd b.data.toList 3; rw [hv3] at bb3; obtain ⟨l3, u3⟩ := bb3
                obtain ⟨v4, hv4⟩ : ∃ q, (perF b.data.toList).v 4 = q := ⟨_, rfl⟩; have bb4 := perF_bd b.data.toList 4; rw [hv4] at bb4; obtain ⟨l4, u4⟩ := bb4
                obtain ⟨PP, hPP⟩ : ∃ q, (perF b.data.toList).place = q := ⟨_, rfl⟩
                by_cases hpe : (perF b.data.toList).err = 0
                · have HP : Hid (∀ r x, AddR Ta v0 v1 v2 v3 v4 r x → SpRk a b j (endS Ta r x)) := Lib.hid fun r x h => by
                    unfold SpRk; rw [if_neg (by rw [← HTA.out]; decide), if_pos HTB.out.symm, if_neg (fun h => h hae), if_neg (fun h => h hpe), hv0, hv1, hv2, hv3, hv4, hTa]; exact ⟨r, x, h, rfl⟩
                  have CTa : Hid (∀ w0, Calls Tryz.prog 37 #[.string a] w0 fun e w' => e = .returned (.tuple #[.int .i64 Ta, .agg #[.int .i64 0, .int .i64 (-1)]]) ∧ Below w0.heap.size w0 w') := Lib.hid fun w0 => by have q := rpt_any a w0 hsa; unfold RtPost at q; rw [ptP_place _ hae, hae, hTa] at q; exact q
                  have CP : Hid (∀ w0, Calls Tryz.prog 36 #[.string b] w0 fun e w' => e = .returned (.tuple #[.agg #[.int .i64 v0, .int .i64 v1, .int .i64 v2, .int .i64 v3, .int .i64 v4], .agg #[.int .i64 0, .int .i64 PP]]) ∧ Below w0.heap.size w0 w') := Lib.hid fun w0 => by have q := rparseP_any b w0 hsb; unfold PerR agg5 at q; rw [hv0, hv1, hv2, hv3, hv4, hpe, hPP] at q; exact q
                  have CA : Hid (∀ w0, Calls Tryz.prog 38 #[.int .i64 Ta, .agg #[.int .i64 v0, .int .i64 v1, .int .i64 v2, .int .i64 v3, .int .i64 v4]] w0 fun e w' => ∃ r x, (e = .returned (.tuple #[.int .i64 r, .int .i64 x]) ∧ AddR Ta v0 v1 v2 v3 v4 r x) ∧ Below w0.heap.size w0 w') := Lib.hid fun w0 => (refAdd_all Ta v0 v1 v2 v3 v4 w0 ⟨by omega, by omega⟩).mono fun e w' ⟨r, x, h1, h2, h3⟩ => ⟨r, x, ⟨h1, h2⟩, h3⟩
                  clear hae hpe hTa hPP hv0 hv1 hv2 hv3 hv4
                  go_wp2_with (first
                    | (go_at_call 37; (with_reducible refine (CTa.out _).mono ?_); rintro e w3 ⟨rfl, hbz⟩; have hX := SD.call HD.out hbz; obtain ⟨c0, f0, c1, f1, p0, g0, p1, g1, p2, g2, p3, g3, p4, g4, q0, h0, q1, h1, q2, h2, q3, h3, q4, h4⟩ := SD.all hX; have H3 := Lib.hid (SD.putb hX 0 (-1)); clear hbz hX)
                    | (go_at_call 36; (with_reducible refine (CP.out _).mono ?_); rintro e w4 ⟨rfl, hbz⟩; have hX := SD.call H3.out hbz; obtain ⟨c0, f0, c1, f1, p0, g0, p1, g1, p2, g2, p3, g3, p4, g4, q0, h0, q1, h1, q2, h2, q3, h3, q4, h4⟩ := SD.all hX; have H4 := Lib.hid (SD.putb (SD.putq hX v0 v1 v2 v3 v4) 0 PP); clear hbz hX))
                  (go_at_call 38; (with_reducible refine (CA.out _).mono ?_); rintro e w5 ⟨r, x, ⟨rfl, hR⟩, hbz⟩; have hX := SD.call H4.out hbz; obtain ⟨c0, f0, c1, f1, p0, g0, p1, g1, p2, g2, p3, g3, p4, g4, q0, h0, q1, h1, q2, h2, q3, h3, q4, h4⟩ := SD.all hX; have H5 := Lib.hid hX; have HPR := Lib.hid (HP.out _ _ hR); clear hbz hX hR)
                  by_cases hx : x = 0
                  · subst hx
                    by_cases ho : r < Ta
                    · have HO : Hid (SpRk a b j ⟨0, 0, 7, -1⟩) := Lib.hid (by have q := HPR.out; rw [endS_order ho] at q; exact q)
                      have hod : decide (r < Ta) = true := decide_eq_true ho; clear ho
                      have CBA : Hid (∀ w0, Calls Tryz.prog 28 #[.int .i64 7] w0 fun e w' => e = .returned (.agg #[.int .i64 7, .int .i64 (-1)]) ∧ Below w0.heap.size w0 w') := Lib.hid fun w0 => badR_any _ w0
                      go_wp2_with (first
                        | (go_at_call 28; (with_reducible refine (CBA.out _).mono ?_); rintro e w9 ⟨rfl, hbz⟩; have hX := SD.call H5.out hbz; obtain ⟨c0, f0, c1, f1, p0, g0, p1, g1, p2, g2, p3, g3, p4, g4, q0, h0, q1, h1, q2, h2, q3, h3, q4, h4⟩ := SD.all hX; have H9 := Lib.hid (SD.putb hX 7 (-1)); clear hbz hX))
                      have hq := H9.out.2.1
                      exact bodyPost_ret (v := .tuple #[.int .i64 0, .int .i64 0, .agg #[.int .i64 7, .int .i64 (-1)]]) (by simp [results, Tryz.results16, go_sem, hq.2.1.1, hq.2.2.1]) rfl (RsnPost.fin ⟨0, 0, 7, -1⟩ (HS.out _ HO.out) rfl H9.out.1)
                    · have HO : Hid (SpRk a b j ⟨Ta, r, 0, -1⟩) := Lib.hid (by have q := HPR.out; rw [endS_ok ho] at q; exact q)
                      have hod : decide (r < Ta) = false := decide_eq_false ho; clear ho
                      have CFI : Hid (∀ w0, Calls Tryz.prog 29 #[] w0 fun e w' => e = .returned (.agg #[.int .i64 0, .int .i64 (-1)]) ∧ Below w0.heap.size w0 w') := Lib.hid fineR_any
                      go_wp2_with (first
                        | (go_at_call 29; (with_reducible refine (CFI.out _).mono ?_); rintro e w9 ⟨rfl, hbz⟩; have hX := SD.call H5.out hbz; obtain ⟨c0, f0, c1, f1, p0, g0, p1, g1, p2, g2, p3, g3, p4, g4, q0, h0, q1, h1, q2, h2, q3, h3, q4, h4⟩ := SD.all hX; have H9 := Lib.hid (SD.putb hX 0 (-1)); clear hbz hX))
                      have hq := H9.out.2.1
                      exact bodyPost_ret (v := .tuple #[.int .i64 Ta, .int .i64 r, .agg #[.int .i64 0, .int .i64 (-1)]]) (by simp [results, Tryz.results16, go_sem, hq.2.1.1, hq.2.2.1]) rfl (RsnPost.fin ⟨Ta, r, 0, -1⟩ (HS.out _ HO.out) rfl H9.out.1)
                  · have HO : Hid (SpRk a b j ⟨0, 0, x, -1⟩) := Lib.hid (by have q := HPR.out; rw [endS_err hx] at q; exact q)
                    have hxb : (x == 0) = false := by simpa using hx
                    clear hx
                    have CBA : Hid (∀ w0, Calls Tryz.prog 28 #[.int .i64 x] w0 fun e w' => e = .returned (.agg #[.int .i64 x, .int .i64 (-1)]) ∧ Below w0.heap.size w0 w') := Lib.hid fun w0 => badR_any _ w0
                    go_wp2_with (first
                      | (go_at_call 28; (with_reducible refine (CBA.out _).mono ?_); rintro e w9 ⟨rfl, hbz⟩; have hX := SD.call H5.out hbz; obtain ⟨c0, f0, c1, f1, p0, g0, p1, g1, p2, g2, p3, g3, p4, g4, q0, h0, q1, h1, q2, h2, q3, h3, q4, h4⟩ := SD.all hX; have H9 := Lib.hid (SD.putb hX x (-1)); clear hbz hX))
                    have hq := H9.out.2.1
                    exact bodyPost_ret (v := .tuple #[.int .i64 0, .int .i64 0, .agg #[.int .i64 x, .int .i64 (-1)]]) (by simp [results, Tryz.results16, go_sem, hq.2.1.1, hq.2.2.1]) rfl (RsnPost.fin ⟨0, 0, x, -1⟩ (HS.out _ HO.out) rfl H9.out.1)
                · skip
                  obtain ⟨PE, hPE⟩ : ∃ q, (perF b.data.toList).err = q := ⟨_, rfl⟩
                  have hpl := perF_pl b.data.toList hpe; rw [hPP] at hpl
                  have HP : Hid (SpRk a b j ⟨0, 0, PE, latE j PP⟩) := Lib.hid (by unfold SpRk; rw [if_neg (by rw [← HTA.out]; decide), if_pos HTB.out.symm, if_neg (fun h => h hae), if_pos hpe, hPE, hPP])
                  have CTa : Hid (∀ w0, Calls Tryz.prog 37 #[.string a] w0 fun e w' => e = .returned (.tuple #[.int .i64 Ta, .agg #[.int .i64 0, .int .i64 (-1)]]) ∧ Below w0.heap.size w0 w') := Lib.hid fun w0 => by have q := rpt_any a w0 hsa; unfold RtPost at q; rw [ptP_place _ hae, hae, hTa] at q; exact q
                  have CP : Hid (∀ w0, Calls Tryz.prog 36 #[.string b] w0 fun e w' => e = .returned (.tuple #[.agg #[.int .i64 v0, .int .i64 v1, .int .i64 v2, .int .i64 v3, .int .i64 v4], .agg #[.int .i64 PE, .int .i64 PP]]) ∧ Below w0.heap.size w0 w') := Lib.hid fun w0 => by have q := rparseP_any b w0 hsb; unfold PerR agg5 at q; rw [hv0, hv1, hv2, hv3, hv4, hPE, hPP] at q; exact q
                  have hxb : (PE == 0) = false := by rw [hPE] at hpe; simpa using hpe
                  clear hae hpe hTa hPP hPE hv0 hv1 hv2 hv3 hv4
                  obtain ⟨y1, hy1⟩ : ∃ q, IntKind.i64.wrap (PP + (j : Int)) = q := ⟨_, rfl⟩; obtain ⟨y2, hy2⟩ : ∃ q, IntKind.i64.wrap (y1 + 1) = q := ⟨_, rfl⟩
                  have HPY : Hid (SpRk a b j ⟨0, 0, PE, y2⟩) := Lib.hid (by have q := HP.out; rw [show latE j PP = y2 by (unfold latE lat; rw [if_pos hpl, hy1, hy2])] at q; exact q)
                  have hpd : decide (0 ≤ PP) = true := decide_eq_true hpl; clear hpl
                  go_wp2_with (first
                    | (go_at_call 37; (with_reducible refine (CTa.out _).mono ?_); rintro e w3 ⟨rfl, hbz⟩; have hX := SD.call HD.out hbz; obtain ⟨c0, f0, c1, f1, p0, g0, p1, g1, p2, g2, p3, g3, p4, g4, q0, h0, q1, h1, q2, h2, q3, h3, q4, h4⟩ := SD.all hX; have H3 := Lib.hid (SD.putb hX 0 (-1)); clear hbz hX)
                    | (go_at_call 36; (with_reducible refine (CP.out _).mono ?_); rintro e w4 ⟨rfl, hbz⟩; have hX := SD.call H3.out hbz; obtain ⟨c0, f0, c1, f1, p0, g0, p1, g1, p2, g2, p3, g3, p4, g4, q0, h0, q1, h1, q2, h2, q3, h3, q4, h4⟩ := SD.all hX; have H4 := Lib.hid (SD.putb (SD.putq hX v0 v1 v2 v3 v4) PE PP); clear hbz hX))
                  have HW := Lib.hid (SD.put1 H4.out y2)
                  obtain ⟨c0, f0, c1, f1, p0, g0, p1, g1, p2, g2, p3, g3, p4, g4, q0, h0, q1, h1, q2, h2, q3, h3, q4, h4⟩ := SD.all HW.out
                  go_region_with fail
                  all_goals
                    go_wp2_with fail
                    have HQ := Lib.hid (SD.putb HW.out PE (y2))
                    have hq := HQ.out.2.1
                    exact bodyPost_ret (v := .tuple #[.int .i64 0, .int .i64 0, .agg #[.int .i64 PE, .int .i64 (y2)]]) (by simp [results, Tryz.results16, go_sem, hq.2.1.1, hq.2.2.1]) rfl (RsnPost.fin ⟨0, 0, PE, y2⟩ (HS.out _ HPY.out) rfl HQ.out.1.drew)
              · skip
                obtain ⟨EE, hEE⟩ : ∃ q, (ptP a).err = q := ⟨_, rfl⟩; obtain ⟨PL, hPL⟩ : ∃ q, (ptP a).place = q := ⟨_, rfl⟩
                have HP : Hid (SpRk a b j ⟨0, 0, EE, PL⟩) := Lib.hid (by unfold SpRk; rw [if_neg (by rw [← HTA.out]; decide), if_pos HTB.out.symm, if_pos hae, hEE, hPL])
                have CTa : Hid (∀ w0, Calls Tryz.prog 37 #[.string a] w0 fun e w' => e = .returned (.tuple #[.int .i64 Ta, .agg #[.int .i64 EE, .int .i64 PL]]) ∧ Below w0.heap.size w0 w') := Lib.hid fun w0 => by have q := rpt_any a w0 hsa; unfold RtPost at q; rw [hTa, hEE, hPL] at q; exact q
                have hxb : (EE == 0) = false := by rw [hEE] at hae; simpa using hae
                clear hae hTa hEE hPL
                go_wp2_with (first
                  | (go_at_call 37; (with_reducible refine (CTa.out _).mono ?_); rintro e w3 ⟨rfl, hbz⟩; have hX := SD.call HD.out hbz; obtain ⟨c0, f0, c1, f1, p0, g0, p1, g1, p2, g2, p3, g3, p4, g4, q0, h0, q1, h1, q2, h2, q3, h3, q4, h4⟩ := SD.all hX; have H3 := Lib.hid (SD.putb hX EE PL); clear hbz hX))
                go_region_with fail
                all_goals
                  go_wp2_with fail
                  have HQ := Lib.hid (SD.putb H3.out EE (PL))
                  have hq := HQ.out.2.1
                  exact bodyPost_ret (v := .tuple #[.int .i64 0, .int .i64 0, .agg #[.int .i64 EE, .int .i64 (PL)]]) (by simp [results, Tryz.results16, go_sem, hq.2.1.1, hq.2.2.1]) rfl (RsnPost.fin ⟨0, 0, EE, PL⟩ (HS.out _ HP.out) rfl HQ.out.1.drew)
          · skip
            obtain ⟨v0, hv0⟩ : ∃ q, (perF a.data.toList).v 0 = q := ⟨_, rfl⟩; have bb0 := perF_bd a.data.toList 0; rw [hv0] at bb0; obtain ⟨l0, u0⟩ := bb0
            obtain ⟨v1, hv1⟩ : ∃ q, (perF a.data.toList).v 1 = q := ⟨_, rfl⟩; have bb1 := perF_bd a.data.toList 1; rw [hv1] at bb1; obtain ⟨l1, u1⟩ := bb1
            obtain ⟨v2, hv2⟩ : ∃ q, (perF a.data.toList).v 2 = q := ⟨_, rfl⟩; have bb2 := perF_bd a.data.toList 2; rw [hv2] at bb2; obtain ⟨l2, u2⟩ := bb2
            obtain ⟨v3, hv3⟩ : ∃ q, (perF a.data.toList).v 3 = q := ⟨_, rfl⟩; have bb3 := perF_bd a.data.toList 3; rw [hv3] at bb3; obtain ⟨l3, u3⟩ := bb3
            obtain ⟨v4, hv4⟩ : ∃ q, (perF a.data.toList).v 4 = q := ⟨_, rfl⟩; have bb4 := perF_bd a.data.toList 4; rw [hv4] at bb4; obtain ⟨l4, u4⟩ := bb4
            obtain ⟨PP, hPP⟩ : ∃ q, (perF a.data.toList).place = q := ⟨_, rfl⟩
            by_cases hpe : (perF a.data.toList).err = 0
            · skip
              obtain ⟨Tb, hTb⟩ : ∃ q, (ptP b).loc = q := ⟨_, rfl⟩; have btb := ptP_loc b; rw [hTb] at btb; obtain ⟨ltb, utb⟩ := btb
              by_cases hbe : (ptP b).err = 0
              · have HP : Hid (∀ r x, AddR Tb (-v0) (-v1) (-v2) (-v3) (-v4) r x → SpRk a b j (endS r Tb x)) := Lib.hid fun r x h => by
                  unfold SpRk; rw [if_pos HTA.out.symm, if_neg (fun h => h hpe), if_neg (fun h => h hbe), hv0, hv1, hv2, hv3, hv4, hTb]; exact ⟨r, x, h, rfl⟩
                have CP : Hid (∀ w0, Calls Tryz.prog 36 #[.string a] w0 fun e w' => e = .returned (.tuple #[.agg #[.int .i64 v0, .int .i64 v1, .int .i64 v2, .int .i64 v3, .int .i64 v4], .agg #[.int .i64 0, .int .i64 PP]]) ∧ Below w0.heap.size w0 w') := Lib.hid fun w0 => by have q := rparseP_any a w0 hsa; unfold PerR agg5 at q; rw [hv0, hv1, hv2, hv3, hv4, hpe, hPP] at q; exact q
                have CTb : Hid (∀ w0, Calls Tryz.prog 37 #[.string b] w0 fun e w' => e = .returned (.tuple #[.int .i64 Tb, .agg #[.int .i64 0, .int .i64 (-1)]]) ∧ Below w0.heap.size w0 w') := Lib.hid fun w0 => by have q := rpt_any b w0 hsb; unfold RtPost at q; rw [ptP_place _ hbe, hbe, hTb] at q; exact q
                have CA : Hid (∀ w0, Calls Tryz.prog 38 #[.int .i64 Tb, .agg #[.int .i64 (-v0), .int .i64 (-v1), .int .i64 (-v2), .int .i64 (-v3), .int .i64 (-v4)]] w0 fun e w' => ∃ r x, (e = .returned (.tuple #[.int .i64 r, .int .i64 x]) ∧ AddR Tb (-v0) (-v1) (-v2) (-v3) (-v4) r x) ∧ Below w0.heap.size w0 w') := Lib.hid fun w0 => (refAdd_all Tb (-v0) (-v1) (-v2) (-v3) (-v4) w0 ⟨by omega, by omega⟩).mono fun e w' ⟨r, x, h1, h2, h3⟩ => ⟨r, x, ⟨h1, h2⟩, h3⟩
                clear hbe hpe hTb hPP hv0 hv1 hv2 hv3 hv4
                rcases TB with _ | _
                · skip
                  go_wp2_with (first
                    | (go_at_call 36; (with_reducible refine (CP.out _).mono ?_); rintro e w3 ⟨rfl, hbz⟩; have hX := SD.call HD.out hbz; obtain ⟨c0, f0, c1, f1, p0, g0, p1, g1, p2, g2, p3, g3, p4, g4, q0, h0, q1, h1, q2, h2, q3, h3, q4, h4⟩ := SD.all hX; have H3 := Lib.hid (SD.putb (SD.putp hX v0 v1 v2 v3 v4) 0 PP); clear hbz hX)
                    | (go_at_call 37; (with_reducible refine (CTb.out _).mono ?_); rintro e w4 ⟨rfl, hbz⟩; have hX := SD.call H3.out hbz; obtain ⟨c0, f0, c1, f1, p0, g0, p1, g1, p2, g2, p3, g3, p4, g4, q0, h0, q1, h1, q2, h2, q3, h3, q4, h4⟩ := SD.all hX; have H4 := Lib.hid (SD.putb hX 0 (-1)); clear hbz hX))
                  (go_at_call 38; (with_reducible refine (CA.out _).mono ?_); rintro e w5 ⟨r, x, ⟨rfl, hR⟩, hbz⟩; have hX := SD.call H4.out hbz; obtain ⟨c0, f0, c1, f1, p0, g0, p1, g1, p2, g2, p3, g3, p4, g4, q0, h0, q1, h1, q2, h2, q3, h3, q4, h4⟩ := SD.all hX; have H5 := Lib.hid hX; have HPR := Lib.hid (HP.out _ _ hR); clear hbz hX hR)
                  by_cases hx : x = 0
                  · subst hx
                    by_cases ho : Tb < r
                    · have HO : Hid (SpRk a b j ⟨0, 0, 7, -1⟩) := Lib.hid (by have q := HPR.out; rw [endS_order ho] at q; exact q)
                      have hod : decide (Tb < r) = true := decide_eq_true ho; clear ho
                      have CBA : Hid (∀ w0, Calls Tryz.prog 28 #[.int .i64 7] w0 fun e w' => e = .returned (.agg #[.int .i64 7, .int .i64 (-1)]) ∧ Below w0.heap.size w0 w') := Lib.hid fun w0 => badR_any _ w0
                      go_wp2_with (first
                        | (go_at_call 28; (with_reducible refine (CBA.out _).mono ?_); rintro e w9 ⟨rfl, hbz⟩; have hX := SD.call H5.out hbz; obtain ⟨c0, f0, c1, f1, p0, g0, p1, g1, p2, g2, p3, g3, p4, g4, q0, h0, q1, h1, q2, h2, q3, h3, q4, h4⟩ := SD.all hX; have H9 := Lib.hid (SD.putb hX 7 (-1)); clear hbz hX))
                      have hq := H9.out.2.1
                      exact bodyPost_ret (v := .tuple #[.int .i64 0, .int .i64 0, .agg #[.int .i64 7, .int .i64 (-1)]]) (by simp [results, Tryz.results16, go_sem, hq.2.1.1, hq.2.2.1]) rfl (RsnPost.fin ⟨0, 0, 7, -1⟩ (HS.out _ HO.out) rfl H9.out.1)
                    · have HO : Hid (SpRk a b j ⟨r, Tb, 0, -1⟩) := Lib.hid (by have q := HPR.out; rw [endS_ok ho] at q; exact q)
                      have hod : decide (Tb < r) = false := decide_eq_false ho; clear ho
                      have CFI : Hid (∀ w0, Calls Tryz.prog 29 #[] w0 fun e w' => e = .returned (.agg #[.int .i64 0, .int .i64 (-1)]) ∧ Below w0.heap.size w0 w') := Lib.hid fineR_any
                      go_wp2_with (first
                        | (go_at_call 29; (with_reducible refine (CFI.out _).mono ?_); rintro e w9 ⟨rfl, hbz⟩; have hX := SD.call H5.out hbz; obtain ⟨c0, f0, c1, f1, p0, g0, p1, g1, p2, g2, p3, g3, p4, g4, q0, h0, q1, h1, q2, h2, q3, h3, q4, h4⟩ := SD.all hX; have H9 := Lib.hid (SD.putb hX 0 (-1)); clear hbz hX))
                      have hq := H9.out.2.1
                      exact bodyPost_ret (v := .tuple #[.int .i64 r, .int .i64 Tb, .agg #[.int .i64 0, .int .i64 (-1)]]) (by simp [results, Tryz.results16, go_sem, hq.2.1.1, hq.2.2.1]) rfl (RsnPost.fin ⟨r, Tb, 0, -1⟩ (HS.out _ HO.out) rfl H9.out.1)
                  · have HO : Hid (SpRk a b j ⟨0, 0, x, -1⟩) := Lib.hid (by have q := HPR.out; rw [endS_err hx] at q; exact q)
                    have hxb : (x == 0) = false := by simpa using hx
                    clear hx
                    have CBA : Hid (∀ w0, Calls Tryz.prog 28 #[.int .i64 x] w0 fun e w' => e = .returned (.agg #[.int .i64 x, .int .i64 (-1)]) ∧ Below w0.heap.size w0 w') := Lib.hid fun w0 => badR_any _ w0
                    go_wp2_with (first
                      | (go_at_call 28; (with_reducible refine (CBA.out _).mono ?_); rintro e w9 ⟨rfl, hbz⟩; have hX := SD.call H5.out hbz; obtain ⟨c0, f0, c1, f1, p0, g0, p1, g1, p2, g2, p3, g3, p4, g4, q0, h0, q1, h1, q2, h2, q3, h3, q4, h4⟩ := SD.all hX; have H9 := Lib.hid (SD.putb hX x (-1)); clear hbz hX))
                    have hq := H9.out.2.1
                    exact bodyPost_ret (v := .tuple #[.int .i64 0, .int .i64 0, .agg #[.int .i64 x, .int .i64 (-1)]]) (by simp [results, Tryz.results16, go_sem, hq.2.1.1, hq.2.2.1]) rfl (RsnPost.fin ⟨0, 0, x, -1⟩ (HS.out _ HO.out) rfl H9.out.1)
                · skip
                  go_wp2_with (first
                    | (go_at_call 36; (with_reducible refine (CP.out _).mono ?_); rintro e w3 ⟨rfl, hbz⟩; have hX := SD.call HD.out hbz; obtain ⟨c0, f0, c1, f1, p0, g0, p1, g1, p2, g2, p3, g3, p4, g4, q0, h0, q1, h1, q2, h2, q3, h3, q4, h4⟩ := SD.all hX; have H3 := Lib.hid (SD.putb (SD.putp hX v0 v1 v2 v3 v4) 0 PP); clear hbz hX)
                    | (go_at_call 37; (with_reducible refine (CTb.out _).mono ?_); rintro e w4 ⟨rfl, hbz⟩; have hX := SD.call H3.out hbz; obtain ⟨c0, f0, c1, f1, p0, g0, p1, g1, p2, g2, p3, g3, p4, g4, q0, h0, q1, h1, q2, h2, q3, h3, q4, h4⟩ := SD.all hX; have H4 := Lib.hid (SD.putb hX 0 (-1)); clear hbz hX))
                  (go_at_call 38; (with_reducible refine (CA.out _).mono ?_); rintro e w5 ⟨r, x, ⟨rfl, hR⟩, hbz⟩; have hX := SD.call H4.out hbz; obtain ⟨c0, f0, c1, f1, p0, g0, p1, g1, p2, g2, p3, g3, p4, g4, q0, h0, q1, h1, q2, h2, q3, h3, q4, h4⟩ := SD.all hX; have H5 := Lib.hid hX; have HPR := Lib.hid (HP.out _ _ hR); clear hbz hX hR)
                  by_cases hx : x = 0
                  · subst hx
                    by_cases ho : Tb < r
                    · have HO : Hid (SpRk a b j ⟨0, 0, 7, -1⟩) := Lib.hid (by have q := HPR.out; rw [endS_order ho] at q; exact q)
                      have hod : decide (Tb < r) = true := decide_eq_true ho; clear ho
                      have CBA : Hid (∀ w0, Calls Tryz.prog 28 #[.int .i64 7] w0 fun e w' => e = .returned (.agg #[.int .i64 7, .int .i64 (-1)]) ∧ Below w0.heap.size w0 w') := Lib.hid fun w0 => badR_any _ w0
                      go_wp2_with (first
                        | (go_at_call 28; (with_reducible refine (CBA.out _).mono ?_); rintro e w9 ⟨rfl, hbz⟩; have hX := SD.call H5.out hbz; obtain ⟨c0, f0, c1, f1, p0, g0, p1, g1, p2, g2, p3, g3, p4, g4, q0, h0, q1, h1, q2, h2, q3, h3, q4, h4⟩ := SD.all hX; have H9 := Lib.hid (SD.putb hX 7 (-1)); clear hbz hX))
                      have hq := H9.out.2.1
                      exact bodyPost_ret (v := .tuple #[.int .i64 0, .int .i64 0, .agg #[.int .i64 7, .int .i64 (-1)]]) (by simp [results, Tryz.results16, go_sem, hq.2.1.1, hq.2.2.1]) rfl (RsnPost.fin ⟨0, 0, 7, -1⟩ (HS.out _ HO.out) rfl H9.out.1)
                    · have HO : Hid (SpRk a b j ⟨r, Tb, 0, -1⟩) := Lib.hid (by have q := HPR.out; rw [endS_ok ho] at q; exact q)
                      have hod : decide (Tb < r) = false := decide_eq_false ho; clear ho
                      have CFI : Hid (∀ w0, Calls Tryz.prog 29 #[] w0 fun e w' => e = .returned (.agg #[.int .i64 0, .int .i64 (-1)]) ∧ Below w0.heap.size w0 w') := Lib.hid fineR_any
                      go_wp2_with (first
                        | (go_at_call 29; (with_reducible refine (CFI.out _).mono ?_); rintro e w9 ⟨rfl, hbz⟩; have hX := SD.call H5.out hbz; obtain ⟨c0, f0, c1, f1, p0, g0, p1, g1, p2, g2, p3, g3, p4, g4, q0, h0, q1, h1, q2, h2, q3, h3, q4, h4⟩ := SD.all hX; have H9 := Lib.hid (SD.putb hX 0 (-1)); clear hbz hX))
                      have hq := H9.out.2.1
                      exact bodyPost_ret (v := .tuple #[.int .i64 r, .int .i64 Tb, .agg #[.int .i64 0, .int .i64 (-1)]]) (by simp [results, Tryz.results16, go_sem, hq.2.1.1, hq.2.2.1]) rfl (RsnPost.fin ⟨r, Tb, 0, -1⟩ (HS.out _ HO.out) rfl H9.out.1)
                  · have HO : Hid (SpRk a b j ⟨0, 0, x, -1⟩) := Lib.hid (by have q := HPR.out; rw [endS_err hx] at q; exact q)
                    have hxb : (x == 0) = false := by simpa using hx
                    clear hx
                    have CBA : Hid (∀ w0, Calls Tryz.prog 28 #[.int .i64 x] w0 fun e w' => e = .returned (.agg #[.int .i64 x, .int .i64 (-1)]) ∧ Below w0.heap.size w0 w') := Lib.hid fun w0 => badR_any _ w0
                    go_wp2_with (first
                      | (go_at_call 28; (with_reducible refine (CBA.out _).mono ?_); rintro e w9 ⟨rfl, hbz⟩; have hX := SD.call H5.out hbz; obtain ⟨c0, f0, c1, f1, p0, g0, p1, g1, p2, g2, p3, g3, p4, g4, q0, h0, q1, h1, q2, h2, q3, h3, q4, h4⟩ := SD.all hX; have H9 := Lib.hid (SD.putb hX x (-1)); clear hbz hX))
                    have hq := H9.out.2.1
                    exact bodyPost_ret (v := .tuple #[.int .i64 0, .int .i64 0, .agg #[.int .i64 x, .int .i64 (-1)]]) (by simp [results, Tryz.results16, go_sem, hq.2.1.1, hq.2.2.1]) rfl (RsnPost.fin ⟨0, 0, x, -1⟩ (HS.out _ HO.out) rfl H9.out.1)
              · skip
                obtain ⟨EE, hEE⟩ : ∃ q, (ptP b).err = q := ⟨_, rfl⟩; obtain ⟨PL, hPL⟩ : ∃ q, (ptP b).place = q := ⟨_, rfl⟩
                have HP : Hid (SpRk a b j ⟨0, 0, EE, latE j PL⟩) := Lib.hid (by unfold SpRk; rw [if_pos HTA.out.symm, if_neg (fun h => h hpe), if_pos hbe, hEE, hPL])
                have CP : Hid (∀ w0, Calls Tryz.prog 36 #[.string a] w0 fun e w' => e = .returned (.tuple #[.agg #[.int .i64 v0, .int .i64 v1, .int .i64 v2, .int .i64 v3, .int .i64 v4], .agg #[.int .i64 0, .int .i64 PP]]) ∧ Below w0.heap.size w0 w') := Lib.hid fun w0 => by have q := rparseP_any a w0 hsa; unfold PerR agg5 at q; rw [hv0, hv1, hv2, hv3, hv4, hpe, hPP] at q; exact q
                have CTb : Hid (∀ w0, Calls Tryz.prog 37 #[.string b] w0 fun e w' => e = .returned (.tuple #[.int .i64 Tb, .agg #[.int .i64 EE, .int .i64 PL]]) ∧ Below w0.heap.size w0 w') := Lib.hid fun w0 => by have q := rpt_any b w0 hsb; unfold RtPost at q; rw [hTb, hEE, hPL] at q; exact q
                have hxb : (EE == 0) = false := by rw [hEE] at hbe; simpa using hbe
                clear hpe hbe hTb hEE hPL hPP hv0 hv1 hv2 hv3 hv4
                rcases TB with _ | _
                · skip
                  by_cases hpl : 0 ≤ PL
                  · skip
                    obtain ⟨y1, hy1⟩ : ∃ q, IntKind.i64.wrap (PL + (j : Int)) = q := ⟨_, rfl⟩; obtain ⟨y2, hy2⟩ : ∃ q, IntKind.i64.wrap (y1 + 1) = q := ⟨_, rfl⟩
                    have HPY : Hid (SpRk a b j ⟨0, 0, EE, y2⟩) := Lib.hid (by have q := HP.out; rw [show latE j PL = y2 by (unfold latE lat; rw [if_pos hpl, hy1, hy2])] at q; exact q)
                    have hpd : decide (0 ≤ PL) = true := decide_eq_true hpl; clear hpl
                    go_wp2_with (first
                      | (go_at_call 36; (with_reducible refine (CP.out _).mono ?_); rintro e w3 ⟨rfl, hbz⟩; have hX := SD.call HD.out hbz; obtain ⟨c0, f0, c1, f1, p0, g0, p1, g1, p2, g2, p3, g3, p4, g4, q0, h0, q1, h1, q2, h2, q3, h3, q4, h4⟩ := SD.all hX; have H3 := Lib.hid (SD.putb (SD.putp hX v0 v1 v2 v3 v4) 0 PP); clear hbz hX)
                      | (go_at_call 37; (with_reducible refine (CTb.out _).mono ?_); rintro e w4 ⟨rfl, hbz⟩; have hX := SD.call H3.out hbz; obtain ⟨c0, f0, c1, f1, p0, g0, p1, g1, p2, g2, p3, g3, p4, g4, q0, h0, q1, h1, q2, h2, q3, h3, q4, h4⟩ := SD.all hX; have H4 := Lib.hid (SD.putb hX EE PL); clear hbz hX))
                    have HW := Lib.hid (SD.put1 H4.out y2)
                    obtain ⟨c0, f0, c1, f1, p0, g0, p1, g1, p2, g2, p3, g3, p4, g4, q0, h0, q1, h1, q2, h2, q3, h3, q4, h4⟩ := SD.all HW.out
                    go_region_with fail
                    all_goals
                      go_wp2_with fail
                      have HQ := Lib.hid (SD.putb HW.out EE (y2))
                      have hq := HQ.out.2.1
                      exact bodyPost_ret (v := .tuple #[.int .i64 0, .int .i64 0, .agg #[.int .i64 EE, .int .i64 (y2)]]) (by simp [results, Tryz.results16, go_sem, hq.2.1.1, hq.2.2.1]) rfl (RsnPost.fin ⟨0, 0, EE, y2⟩ (HS.out _ HPY.out) rfl HQ.out.1.drew)
                  · have HPY : Hid (SpRk a b j ⟨0, 0, EE, PL⟩) := Lib.hid (by have q := HP.out; rw [show latE j PL = PL from if_neg hpl] at q; exact q)
                    have hpd : decide (0 ≤ PL) = false := decide_eq_false hpl; clear hpl
                    go_wp2_with (first
                      | (go_at_call 36; (with_reducible refine (CP.out _).mono ?_); rintro e w3 ⟨rfl, hbz⟩; have hX := SD.call HD.out hbz; obtain ⟨c0, f0, c1, f1, p0, g0, p1, g1, p2, g2, p3, g3, p4, g4, q0, h0, q1, h1, q2, h2, q3, h3, q4, h4⟩ := SD.all hX; have H3 := Lib.hid (SD.putb (SD.putp hX v0 v1 v2 v3 v4) 0 PP); clear hbz hX)
                      | (go_at_call 37; (with_reducible refine (CTb.out _).mono ?_); rintro e w4 ⟨rfl, hbz⟩; have hX := SD.call H3.out hbz; obtain ⟨c0, f0, c1, f1, p0, g0, p1, g1, p2, g2, p3, g3, p4, g4, q0, h0, q1, h1, q2, h2, q3, h3, q4, h4⟩ := SD.all hX; have H4 := Lib.hid (SD.putb hX EE PL); clear hbz hX))
                    go_region_with fail
                    all_goals
                      go_wp2_with fail
                      have HQ := Lib.hid (SD.putb H4.out EE (PL))
                      have hq := HQ.out.2.1
                      exact bodyPost_ret (v := .tuple #[.int .i64 0, .int .i64 0, .agg #[.int .i64 EE, .int .i64 (PL)]]) (by simp [results, Tryz.results16, go_sem, hq.2.1.1, hq.2.2.1]) rfl (RsnPost.fin ⟨0, 0, EE, PL⟩ (HS.out _ HPY.out) rfl HQ.out.1.drew)
                · skip
                  by_cases hpl : 0 ≤ PL
                  · skip
                    obtain ⟨y1, hy1⟩ : ∃ q, IntKind.i64.wrap (PL + (j : Int)) = q := ⟨_, rfl⟩; obtain ⟨y2, hy2⟩ : ∃ q, IntKind.i64.wrap (y1 + 1) = q := ⟨_, rfl⟩
                    have HPY : Hid (SpRk a b j ⟨0, 0, EE, y2⟩) := Lib.hid (by have q := HP.out; rw [show latE j PL = y2 by (unfold latE lat; rw [if_pos hpl, hy1, hy2])] at q; exact q)
                    have hpd : decide (0 ≤ PL) = true := decide_eq_true hpl; clear hpl
                    go_wp2_with (first
                      | (go_at_call 36; (with_reducible refine (CP.out _).mono ?_); rintro e w3 ⟨rfl, hbz⟩; have hX := SD.call HD.out hbz; obtain ⟨c0, f0, c1, f1, p0, g0, p1, g1, p2, g2, p3, g3, p4, g4, q0, h0, q1, h1, q2, h2, q3, h3, q4, h4⟩ := SD.all hX; have H3 := Lib.hid (SD.putb (SD.putp hX v0 v1 v2 v3 v4) 0 PP); clear hbz hX)
                      | (go_at_call 37; (with_reducible refine (CTb.out _).mono ?_); rintro e w4 ⟨rfl, hbz⟩; have hX := SD.call H3.out hbz; obtain ⟨c0, f0, c1, f1, p0, g0, p1, g1, p2, g2, p3, g3, p4, g4, q0, h0, q1, h1, q2, h2, q3, h3, q4, h4⟩ := SD.all hX; have H4 := Lib.hid (SD.putb hX EE PL); clear hbz hX))
                    have HW := Lib.hid (SD.put1 H4.out y2)
                    obtain ⟨c0, f0, c1, f1, p0, g0, p1, g1, p2, g2, p3, g3, p4, g4, q0, h0, q1, h1, q2, h2, q3, h3, q4, h4⟩ := SD.all HW.out
                    go_region_with fail
                    all_goals
                      go_wp2_with fail
                      have HQ := Lib.hid (SD.putb HW.out EE (y2))
                      have hq := HQ.out.2.1
                      exact bodyPost_ret (v := .tuple #[.int .i64 0, .int .i64 0, .agg #[.int .i64 EE, .int .i64 (y2)]]) (by simp [results, Tryz.results16, go_sem, hq.2.1.1, hq.2.2.1]) rfl (RsnPost.fin ⟨0, 0, EE, y2⟩ (HS.out _ HPY.out) rfl HQ.out.1.drew)
                  · have HPY : Hid (SpRk a b j ⟨0, 0, EE, PL⟩) := Lib.hid (by have q := HP.out; rw [show latE j PL = PL from if_neg hpl] at q; exact q)
                    have hpd : decide (0 ≤ PL) = false := decide_eq_false hpl; clear hpl
                    go_wp2_with (first
                      | (go_at_call 36; (with_reducible refine (CP.out _).mono ?_); rintro e w3 ⟨rfl, hbz⟩; have hX := SD.call HD.out hbz; obtain ⟨c0, f0, c1, f1, p0, g0, p1, g1, p2, g2, p3, g3, p4, g4, q0, h0, q1, h1, q2, h2, q3, h3, q4, h4⟩ := SD.all hX; have H3 := Lib.hid (SD.putb (SD.putp hX v0 v1 v2 v3 v4) 0 PP); clear hbz hX)
                      | (go_at_call 37; (with_reducible refine (CTb.out _).mono ?_); rintro e w4 ⟨rfl, hbz⟩; have hX := SD.call H3.out hbz; obtain ⟨c0, f0, c1, f1, p0, g0, p1, g1, p2, g2, p3, g3, p4, g4, q0, h0, q1, h1, q2, h2, q3, h3, q4, h4⟩ := SD.all hX; have H4 := Lib.hid (SD.putb hX EE PL); clear hbz hX))
                    go_region_with fail
                    all_goals
                      go_wp2_with fail
                      have HQ := Lib.hid (SD.putb H4.out EE (PL))
                      have hq := HQ.out.2.1
                      exact bodyPost_ret (v := .tuple #[.int .i64 0, .int .i64 0, .agg #[.int .i64 EE, .int .i64 (PL)]]) (by simp [results, Tryz.results16, go_sem, hq.2.1.1, hq.2.2.1]) rfl (RsnPost.fin ⟨0, 0, EE, PL⟩ (HS.out _ HPY.out) rfl HQ.out.1.drew)
            · skip
              obtain ⟨PE, hPE⟩ : ∃ q, (perF a.data.toList).err = q := ⟨_, rfl⟩
              have HP : Hid (SpRk a b j ⟨0, 0, PE, PP⟩) := Lib.hid (by unfold SpRk; rw [if_pos HTA.out.symm, if_pos hpe, hPE, hPP])
              have CP : Hid (∀ w0, Calls Tryz.prog 36 #[.string a] w0 fun e w' => e = .returned (.tuple #[.agg #[.int .i64 v0, .int .i64 v1, .int .i64 v2, .int .i64 v3, .int .i64 v4], .agg #[.int .i64 PE, .int .i64 PP]]) ∧ Below w0.heap.size w0 w') := Lib.hid fun w0 => by have q := rparseP_any a w0 hsa; unfold PerR agg5 at q; rw [hv0, hv1, hv2, hv3, hv4, hPE, hPP] at q; exact q
              have hxb : (PE == 0) = false := by rw [hPE] at hpe; simpa using hpe
              clear hpe hPP hPE hv0 hv1 hv2 hv3 hv4
              go_wp2_with (first
                | (go_at_call 36; (with_reducible refine (CP.out _).mono ?_); rintro e w3 ⟨rfl, hbz⟩; have hX := SD.call HD.out hbz; obtain ⟨c0, f0, c1, f1, p0, g0, p1, g1, p2, g2, p3, g3, p4, g4, q0, h0, q1, h1, q2, h2, q3, h3, q4, h4⟩ := SD.all hX; have H3 := Lib.hid (SD.putb (SD.putp hX v0 v1 v2 v3 v4) PE PP); clear hbz hX))
              go_region_with fail
              all_goals
                go_wp2_with fail
                have HQ := Lib.hid (SD.putb H3.out PE (PP))
                have hq := HQ.out.2.1
                exact bodyPost_ret (v := .tuple #[.int .i64 0, .int .i64 0, .agg #[.int .i64 PE, .int .i64 (PP)]]) (by simp [results, Tryz.results16, go_sem, hq.2.1.1, hq.2.2.1]) rfl (RsnPost.fin ⟨0, 0, PE, PP⟩ (HS.out _ HP.out) rfl HQ.out.1.drew)
      · have hcb : (s[j].toNat == 47) = false := by simp; exact fun e => hc (UInt8.toNat_inj.1 e)
        have hcbi : ((s[j].toNat : Int) == 47) = false := by simp; exact fun e => hc (UInt8.toNat_inj.1 (by have e2 : ((s[j].toNat : Nat) : Int) = 47 := e; exact Int.ofNat_inj.1 e2))
        go_wp2_with fail
        go_roundw
        case rel =>
          refine ⟨j + 1, by go_num, by omega, Lib.hid fun i hi => ?_, by first | trivial | rfl⟩
          rcases Nat.lt_or_ge i j with h | h
          · exact HN.out i h
          · obtain rfl : i = j := by omega
            intro e
            obtain ⟨q1, q2⟩ := List.getElem?_eq_some_iff.1 e
            exact hc q2
        case measure => simp [intOf]; omega
    · have hd : decide (j < s.size) = false := decide_eq_false hlt
      have hd2 : decide ((j : Int) < (s.size : Int)) = false := decide_eq_false (by omega)
      obtain rfl : j = s.size := by omega
      have HM : Hid ((47 : UInt8) ∉ s.data.toList) := Lib.hid fun hm => by
        obtain ⟨i, hi, e⟩ := List.mem_iff_getElem.1 hm
        exact HN.out i (by rw [lenT] at hi; exact hi) (List.getElem?_eq_some_iff.2 ⟨hi, e⟩)
      go_wp2_with fail
      have hq := L2.box w (.int .i64 5) (.int .i64 (s.size : Int)) 29
      exact bodyPost_ret (v := .tuple #[.int .i64 0, .int .i64 0, .agg #[.int .i64 5, .int .i64 (s.size : Int)]]) (by simp [results, Tryz.results16, go_sem, hq.2.1.1, hq.2.2.1]) rfl ⟨⟨0, 0, 5, (s.size : Int)⟩, .inl ⟨HM.out, rfl⟩, rfl, (Below.refl _ _).alloc (Nat.le_refl _) _⟩
end Go.Proofs.YtkfpnlenmdlmjaaGreatDoor
namespace Go.Proofs.YtkfpnlenmdlmjaaGreatDoor
open Go.RowKit Scm
def PsPost (s : ByteArray) (w : World) (e : Ending) (w' : World) : Prop := ∃ P, SpR s P ∧ e = .returned (.tuple #[.int .i64 P.from_, .int .i64 P.to_, .int .i64 P.err, .int .i64 P.place]) ∧ Below w.heap.size w w'
set_option maxRecDepth 100000 in
set_option maxHeartbeats 4000000 in
theorem plainSpan_any (s : ByteArray) (w : World) (hT : ErrT w) (hr : RomanT w) (hs : s.size ≤ 9223372036854775807) :
    Calls Tryz.prog 15 #[.string s] w (PsPost s w) := by
  have hC := cspan_any s w hT hr hs
  unfold SpPost at hC
  have CP : Hid (Calls Tryz.prog 35 #[.string s] w fun e w' => ∃ f t x p v, (e = .returned (.tuple #[.int .i64 f, .int .i64 t, v]) ∧ SpR s ⟨f, t, x, p⟩ ∧ ErrJ w.heap.size x p v w') ∧ Below w.heap.size w w') := Lib.hid (hC.mono fun e w' ⟨⟨f, t, x, p⟩, v, h1, h2, h3, h4⟩ => ⟨f, t, x, p, v, ⟨h2, h1, h3⟩, h4⟩)
  have HT := Lib.hid hT
  clear hC hT hr hs
  go_enter Tryz.func15, Tryz.ntmps15
  go_wp2_with (first
    | (go_at_call 35; (with_reducible refine CP.out.mono ?_); rintro e w1 ⟨f, t, x, p, v, ⟨rfl, hR, hX⟩, hb1⟩; have HR := Lib.hid hR; have HX := Lib.hid hX; have HB1 := Lib.hid hb1; have HT1 := Lib.hid (HT.out.call hb1); clear hR hX hb1)
    | (go_at_call 20; (with_reducible refine (tell_isJ HX.out HT1.out).mono ?_); rintro e w2 ⟨rfl, hb2⟩; have HB2 := Lib.hid (thenB HB1.out hb2); have HX2 := Lib.hid (ErrJ.call HX.out hb2); have HT2 := Lib.hid (HT1.out.call hb2); clear hb2)
    | (go_at_call 21; (with_reducible refine (where_isJ HX2.out HT2.out).mono ?_); rintro e w3 ⟨rfl, hb3⟩; have HB3 := Lib.hid (thenB HB2.out hb3); clear hb3))
  exact bodyPost_ret (v := .tuple #[.int .i64 f, .int .i64 t, .int .i64 x, .int .i64 p]) (by simp [results, Tryz.results15, go_sem]) rfl ⟨⟨f, t, x, p⟩, HR.out, rfl, HB3.out⟩
set_option maxRecDepth 100000 in
set_option maxHeartbeats 4000000 in
theorem clockSpans_walk (s : ByteArray) (w : World) (hT : ErrT w) (hr : RomanT w) (hs : s.size ≤ 9223372036854775807) :
    Calls Tryz.prog 5 #[.string s] w fun ev w' => ev = .returned (.bool true) ∧ Below w.heap.size w w' := by
  have C1 := Lib.hid ((plainSpan_any s w hT hr hs).mono fun e w' (h : PsPost _ _ _ _) => show ∃ f t x p, (e = .returned (.tuple #[.int .i64 f, .int .i64 t, .int .i64 x, .int .i64 p]) ∧ SpR s ⟨f, t, x, p⟩) ∧ Below w.heap.size w w' from by obtain ⟨⟨f, t, x, p⟩, h1, h2, h3⟩ := h; exact ⟨f, t, x, p, ⟨h2, h1⟩, h3⟩)
  have C2 := Lib.hid (fun (f t x p : Int) (hP : SpR s ⟨f, t, x, p⟩) w0 => (rspan_any s w0 hs).mono fun e w' (h : RsnPost _ _ _ _) => show e = .returned (.tuple #[.int .i64 f, .int .i64 t, .agg #[.int .i64 x, .int .i64 p]]) ∧ Below w0.heap.size w0 w' from by obtain ⟨Q, h1, h2, h3⟩ := h; obtain rfl := hP.one h1; exact ⟨h2, h3⟩)
  clear hT hr hs
  go_enter Tryz.func5, Tryz.ntmps5
  go_wp2_with (first
    | (go_at_call 15; (with_reducible refine C1.out.mono ?_); rintro ev w1 ⟨f, t, x, p, ⟨rfl, hP⟩, hb1⟩; have HP := Lib.hid hP; have HB1 := Lib.hid hb1; clear hb1 hP)
    | (go_at_call 16; (with_reducible refine (C2.out f t x p HP.out _).mono ?_); rintro ev w2 ⟨rfl, hb2⟩; have HB2 := Lib.hid (thenB HB1.out hb2); clear hb2))
  go_ret
  exact ⟨rfl, HB2.out.alloc HB2.out.size _⟩
end Go.Proofs.YtkfpnlenmdlmjaaGreatDoor
