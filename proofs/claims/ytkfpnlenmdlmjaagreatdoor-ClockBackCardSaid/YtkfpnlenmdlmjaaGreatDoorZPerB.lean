/- A builder of the call's own; PeriodText's closure. -/
import Derived.Test.YtkfpnlenmdlmjaaGreatDoorZTxtA
import Derived.Test.YtkfpnlenmdlmjaaGreatDoorZG10
namespace Go.Proofs.YtkfpnlenmdlmjaaGreatDoor
open Go.RowKit Go.Shelf Per
theorem bxW : Builder.Extra Tryz.prog layWS_ren := { sizeBuilder := by kernel_rfl, liesBuilder := by kernel_rfl, t5 := Tryz.underlying5, a5 := Tryz.isAgg5, z5 := Tryz.sizeOf5, v5 := Tryz.zeroValue5, infoByte := by kernel_rfl, cellsByte := by kernel_rfl, sizeByte := by kernel_rfl, neB5 := by decide }
theorem bxS : Builder.Extra Tryz.prog layBS_ren := { sizeBuilder := by kernel_rfl, liesBuilder := by kernel_rfl, t5 := Tryz.underlying5, a5 := Tryz.isAgg5, z5 := Tryz.sizeOf5, v5 := Tryz.zeroValue5, infoByte := by kernel_rfl, cellsByte := by kernel_rfl, sizeByte := by kernel_rfl, neB5 := by decide }
theorem bxB : Builder.Extra Tryz.prog layWB_ren := { sizeBuilder := by kernel_rfl, liesBuilder := by kernel_rfl, t5 := Tryz.underlying5, a5 := Tryz.isAgg5, z5 := Tryz.sizeOf5, v5 := Tryz.zeroValue5, infoByte := by kernel_rfl, cellsByte := by kernel_rfl, sizeByte := by kernel_rfl, neB5 := by decide }
/-- A builder of the call's own, in block b. -/
def Bld (b : Nat) (l : List UInt8) (w : World) : Prop := Lib.IsBuilderF 138 5 b b (Lib.byteCells l) w
theorem Bld.keep {b : Nat} {l : List UInt8} {w w' : World} (h : Bld b l w) (hk : ∀ k o, b ≤ k → w.heap[k]? = some o → w'.heap[k]? = some o) : Bld b l w' := by
  have one : ∀ p, Lib.BuilderAtF 138 5 b b p (Lib.byteCells l) w → Lib.BuilderAtF 138 5 b b p (Lib.byteCells l) w' := by
    rintro p ⟨hB, v, hb, ⟨hl, hown⟩, hne⟩
    refine ⟨hB, v, hk _ _ hB hb, ⟨hl, ?_⟩, hne⟩
    rcases hown with h1 | ⟨g, cap, cur, fz, h1, h2, h3, h4⟩
    · exact .inl h1
    · exact .inr ⟨g, cap, cur, fz, h1, h2, hk _ _ h2 h3, h4⟩
  rcases h with h | h
  · exact .inl (one _ h)
  · exact .inr (one _ h)
theorem Bld.call {b : Nat} {l : List UInt8} {w w' : World} (h : Bld b l w) (hb : Below w.heap.size w w') : Bld b l w' :=
  h.keep fun k _ _ ho => (hb.block k (Array.getElem?_eq_some_iff.1 ho).1).trans ho
theorem Bld.set {b : Nat} {l : List UInt8} {w : World} (h : Bld b l w) {p : Addr} (hp : p.block < b) (v : Value) : Bld b l (w.setCell p v) :=
  h.keep fun k _ hk ho => (Below.heap_setCell _ _ _ _ (by omega)).trans ho
theorem Bld.lt {b : Nat} {l : List UInt8} {w : World} (h : Bld b l w) : b < w.heap.size := by
  rcases h with h | h <;> exact h.lt
theorem Bld.new (w : World) : Bld w.heap.size [] (w.alloc (.cells #[.pointer none, .slice none 0 0] 138)) := Lib.IsBuilderF.of (Lib.fresh_isBuilder 138 5 w)
theorem writeS (b : Nat) (l : List UInt8) (s : ByteArray) (w : World) (h : Bld b l w) (hl : l.length + s.size ≤ 140737488355328) :
    Calls Tryz.prog 74 #[.pointer (some ⟨b, 0, none⟩), .string s] w fun e w' => e = .returned (.tuple #[.int .i64 s.size, .nilIface]) ∧ Bld b (l ++ s.data.toList) w' ∧ Below b w w' := by
  refine (Any.Builder_WriteString_k layWS bxW b b _ s w h (by rw [Lib.byteCells_length]; exact hl) (Nat.le_of_lt h.lt)).mono ?_
  rintro e w' ⟨rfl, h1, h2, -⟩
  exact ⟨rfl, by unfold Bld; rw [Lib.byteCells_append]; exact .inr h1, h2⟩
theorem writeB (b : Nat) (l : List UInt8) (c : UInt8) (C : Int) (hC : C = (c.toNat : Int)) (w : World) (h : Bld b l w) (hl : l.length + 1 ≤ 140737488355328) :
    Calls Tryz.prog 72 #[.pointer (some ⟨b, 0, none⟩), .int .u8 C] w fun e w' => e = .returned .nilIface ∧ Bld b (l ++ [c]) w' ∧ Below b w w' := by
  subst hC
  refine (Any.Builder_WriteByte_k layWB bxB b b _ (c.toNat : Int) w h (by rw [Lib.byteCells_length]; exact hl) (Nat.le_of_lt h.lt)).mono ?_
  rintro e w' ⟨rfl, h1, h2, -⟩
  exact ⟨rfl, by unfold Bld; rw [Lib.byteCells_append]; exact .inr h1, h2⟩
theorem strB (b : Nat) (l : List UInt8) (w : World) (h : Bld b l w) :
    Calls Tryz.prog 75 #[.pointer (some ⟨b, 0, none⟩)] w fun e w' => e = .returned (.string ⟨l.toArray⟩) ∧ Below b w w' := by
  refine (Any.Builder_String_any_k layBS bxS b b l w h (Nat.le_of_lt h.lt)).mono ?_
  rintro e w' ⟨rfl, -, h2, -⟩
  exact ⟨rfl, h2⟩
theorem below_to {B : Nat} {w w1 w2 : World} (h : Below w.heap.size w w1) (h2 : Below B w1 w2) (hB : w.heap.size ≤ B) : Below w.heap.size w w2 := h.trans (h2.mono hB)
set_option maxHeartbeats 2000000 in
theorem put_any (b : Nat) (l : List UInt8) (n : Int) (u : UInt8) (w : World) (hp : Pow w) (h : Bld b l w) (hl : l.length ≤ 1000) (hpb : 3 < b) (hn : n ≤ 9223372036854775807) :
    Calls Tryz.prog 73 #[.int .i64 n, .string ⟨#[u]⟩, .pointer (some ⟨b, 0, none⟩)] w fun e w' => e = .returned (.tuple #[]) ∧ Bld b (l ++ partL n u) w' ∧ Below b w w' ∧ Pow w' := by
  have HBL := Lib.hid h
  have HPW := Lib.hid hp
  by_cases h0 : 0 < n
  · have CI : Hid (Calls Tryz.prog 59 #[.int .i64 n] w fun e w' => e = .returned (.string ⟨(Lib.itoa n).toArray⟩) ∧ Below w.heap.size w w') := Lib.hid (itoaP n w hp (by omega) hn)
    have hil := Lib.itoa_length_le n (by omega) hn
    obtain ⟨S, hS⟩ : ∃ S : ByteArray, (⟨(Lib.itoa n).toArray⟩ : ByteArray) = S := ⟨_, rfl⟩
    rw [hS] at CI
    have hSl : S.data.toList = Lib.itoa n := by rw [← hS]
    have hs : S.size ≤ 21 := by rw [Lib.size_eq, hSl]; exact hil
    have HE : Hid (partL n u = (S ++ ⟨#[u]⟩ : ByteArray).data.toList) := Lib.hid (by rw [app_eqT, hSl, partL_yes h0])
    have hs2 : Hid ((S ++ ⟨#[u]⟩ : ByteArray).size ≤ 22) := Lib.hid (by rw [ByteArray.size_append]; show S.size + 1 ≤ 22; omega)
    have HL := Lib.hid hl
    have hd : decide (0 < n) = true := decide_eq_true h0
    clear hS hSl h hp hil hl
    go_enter Tryz.func73, Tryz.ntmps73
    go_wp2_with (first
      | (go_at_call 59; (with_reducible refine CI.out.mono ?_); rintro e w1 ⟨rfl, hb1⟩; have HB1 := Lib.hid hb1; clear hb1)
      | (go_at_call 74; refine (writeS b l _ _ (HBL.out.call HB1.out) (by have := hs2.out; have := HL.out; omega)).mono ?_; rintro e w2 ⟨rfl, hB, hb2⟩; have HB2 := Lib.hid hb2; have HBL2 := Lib.hid hB; clear hB hb2))
    go_end0
    exact ⟨rfl, by rw [HE.out]; exact HBL2.out, (HB1.out.mono (Nat.le_of_lt HBL.out.lt)).trans HB2.out, var?_below HB2.out Tryz.gPow hpb (HPW.out.call HB1.out)⟩
  · have HE : Hid (partL n u = []) := Lib.hid (partL_no h0)
    have hd : decide (0 < n) = false := decide_eq_false h0
    clear h hp
    go_enter Tryz.func73, Tryz.ntmps73
    go_wp2_with fail
    go_end0
    exact ⟨rfl, by rw [HE.out, List.append_nil]; exact HBL.out, Below.refl _ _, HPW.out⟩
/-- The builder under way. -/
def St (b : Nat) (W : World) (L : Nat) (l : List UInt8) (w : World) : Prop := Bld b l w ∧ Pow w ∧ Below W.heap.size W w ∧ l.length ≤ L
theorem st_byte (b : Nat) (W : World) (c : UInt8) (C : Int) (hC : C = (c.toNat : Int)) (hpb : 3 < b) (hW : W.heap.size ≤ b) (L : Nat) (l : List UInt8) (w : World) (hL : L ≤ 1000) (h : St b W L l w) :
    Calls Tryz.prog 72 #[.pointer (some ⟨b, 0, none⟩), .int .u8 C] w fun e w' => e = .returned .nilIface ∧ St b W (L + 1) (l ++ [c]) w' ∧ Below b w w' := by
  obtain ⟨h1, h2, h3, h4⟩ := h
  refine (writeB b l c C hC w h1 (by omega)).mono ?_
  rintro e w' ⟨rfl, hB, hb⟩
  exact ⟨rfl, ⟨hB, var?_below hb Tryz.gPow hpb h2, below_to h3 hb hW, by rw [List.length_append]; simp; exact h4⟩, hb⟩
theorem st_put (b : Nat) (W : World) (n : Int) (u : UInt8) (hpb : 3 < b) (hW : W.heap.size ≤ b) (hn : n ≤ 9223372036854775807) (L : Nat) (l : List UInt8) (w : World) (hL : L ≤ 1000) (h : St b W L l w) :
    Calls Tryz.prog 73 #[.int .i64 n, .string ⟨#[u]⟩, .pointer (some ⟨b, 0, none⟩)] w fun e w' => e = .returned (.tuple #[]) ∧ St b W (L + 22) (l ++ partL n u) w' ∧ Below b w w' := by
  obtain ⟨h1, h2, h3, h4⟩ := h
  refine (put_any b l n u w h2 h1 (by omega) hpb hn).mono ?_
  rintro e w' ⟨rfl, hB, hb, hp⟩
  have := partL_len (n := n) (u := u) hn
  exact ⟨rfl, ⟨hB, hp, below_to h3 hb hW, by rw [List.length_append]; omega⟩, hb⟩
theorem st_two (b : Nat) (W : World) (c1 c2 : UInt8) (hpb : 3 < b) (hW : W.heap.size ≤ b) (L : Nat) (l : List UInt8) (w : World) (hL : L ≤ 1000) (h : St b W L l w) :
    Calls Tryz.prog 74 #[.pointer (some ⟨b, 0, none⟩), .string ⟨#[c1, c2]⟩] w fun e w' => e = .returned (.tuple #[.int .i64 2, .nilIface]) ∧ St b W (L + 2) (l ++ [c1, c2]) w' ∧ Below b w w' := by
  obtain ⟨h1, h2, h3, h4⟩ := h
  refine (writeS b l ⟨#[c1, c2]⟩ w h1 (by have e : (⟨#[c1, c2]⟩ : ByteArray).size = 2 := rfl; omega)).mono ?_
  rintro e w' ⟨rfl, hB, hb⟩
  exact ⟨rfl, ⟨hB, var?_below hb Tryz.gPow hpb h2, below_to h3 hb hW, by rw [List.length_append]; simp; exact h4⟩, hb⟩
theorem st_end (b : Nat) (W : World) (hW : W.heap.size ≤ b) (L : Nat) (l : List UInt8) (w : World) (h : St b W L l w) :
    Calls Tryz.prog 75 #[.pointer (some ⟨b, 0, none⟩)] w fun e w' => e = .returned (.string ⟨l.toArray⟩) ∧ Below W.heap.size W w' := by
  obtain ⟨h1, h2, h3, h4⟩ := h
  refine (strB b l w h1).mono ?_
  rintro e w' ⟨rfl, hb⟩
  exact ⟨rfl, below_to h3 hb hW⟩
end Go.Proofs.YtkfpnlenmdlmjaaGreatDoor
