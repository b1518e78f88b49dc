/- Parts that came in, in memory; the program's checkLine. -/
import Derived.Test.YtidgahnamdhflaaDoorPrtC
import Derived.Deep.CutRange
namespace Go.Proofs.YtidgahnamdhflaaDoor
open Go.RowKit Go.Shelf Fld Prt
theorem padd_block (a : Addr) (k : Nat) : (a.add k).block = a.block := by unfold Addr.add; split <;> rfl
/-- A []string below block B. -/
def VStr (B : Nat) (w : World) (v : Value) (L : List ByteArray) : Prop :=
  ∃ oa cap, v = .slice oa L.length cap ∧ (0 < L.length → ∃ a, oa = some a) ∧ ∀ a, oa = some a → (0 < L.length → a.block < B) ∧ ∀ i, i < L.length → w.cell? (a.add i) = some (.string (L.getD i ⟨#[]⟩))
theorem VStr.call {B : Nat} {w w' : World} {v : Value} {L : List ByteArray} (h : VStr B w v L) (hb : Below B w w') : VStr B w' v L := by
  obtain ⟨oa, cap, h1, h2, h3⟩ := h
  refine ⟨oa, cap, h1, h2, fun a ha => ⟨(h3 a ha).1, fun i hi => ?_⟩⟩
  exact (hb.cell (p := a.add i) (by rw [padd_block]; exact (h3 a ha).1 (by omega))).trans ((h3 a ha).2 i hi)
theorem VStr.at {B : Nat} {w : World} {a : Addr} {n cap : Nat} {L : List ByteArray} (h : VStr B w (.slice (some a) n cap) L) {i : Nat} (hi : i < L.length) : w.cell? (a.add i) = some (.string (L.getD i ⟨#[]⟩)) := by
  obtain ⟨oa, c, h1, -, h3⟩ := h
  cases h1
  exact (h3 a rfl).2 i hi
/-- A []Param below block B. -/
def VPrm (B : Nat) (w : World) (v : Value) (L : List Prm) : Prop :=
  ∃ oa cap, v = .slice oa L.length cap ∧ (0 < L.length → ∃ a, oa = some a) ∧ ∀ a, oa = some a → (0 < L.length → a.block < B) ∧ ∀ i, i < L.length → w.cell? (a.add (i * 2)) = some (.string (L.getD i prm0).name) ∧ ∃ u, w.cell? ((a.add (i * 2)).add 1) = some u ∧ VStr B w u (L.getD i prm0).vals
theorem VPrm.call {B : Nat} {w w' : World} {v : Value} {L : List Prm} (h : VPrm B w v L) (hb : Below B w w') : VPrm B w' v L := by
  obtain ⟨oa, cap, h1, h2, h3⟩ := h
  refine ⟨oa, cap, h1, h2, fun a ha => ⟨(h3 a ha).1, fun i hi => ?_⟩⟩
  have hB := (h3 a ha).1 (by omega)
  obtain ⟨g1, u, g2, g3⟩ := (h3 a ha).2 i hi
  exact ⟨(hb.cell (p := a.add (i * 2)) (by rw [padd_block]; exact hB)).trans g1, u, (hb.cell (p := (a.add (i * 2)).add 1) (by rw [padd_block, padd_block]; exact hB)).trans g2, g3.call hb⟩
theorem VPrm.at {B : Nat} {w : World} {oa : Option Addr} {n cap : Nat} {L : List Prm} (h : VPrm B w (.slice oa n cap) L) {i : Nat} (hi : i < L.length) :
    ∃ a, oa = some a ∧ a.block < B ∧ w.cell? (a.add (i * 2)) = some (.string (L.getD i prm0).name) ∧ ∃ u, w.cell? { block := (a.add (i * 2)).block, off := (a.add (i * 2)).off + 1 } = some u ∧ VStr B w u (L.getD i prm0).vals := by
  obtain ⟨ob, c, h1, h2, h3⟩ := h
  simp only [Value.slice.injEq] at h1
  obtain ⟨rfl, -, rfl⟩ := h1
  obtain ⟨a, rfl⟩ := h2 (by omega)
  obtain ⟨g1, u, g2, g3⟩ := (h3 a rfl).2 i hi
  exact ⟨a, rfl, (h3 a rfl).1 (by omega), g1, u, g2, g3⟩
/-- A []Line below block B. -/
def VLn (B : Nat) (w : World) (v : Value) (L : List Ln) : Prop :=
  ∃ oa cap, v = .slice oa L.length cap ∧ (0 < L.length → ∃ a, oa = some a) ∧ ∀ a, oa = some a → (0 < L.length → a.block < B) ∧ ∀ i, i < L.length → w.cell? (a.add (i * 3)) = some (.string (L.getD i ln0).name) ∧ (∃ u, w.cell? ((a.add (i * 3)).add 1) = some u ∧ VPrm B w u (L.getD i ln0).prms) ∧ w.cell? ((a.add (i * 3)).add 2) = some (.string (L.getD i ln0).value)
theorem VLn.call {B : Nat} {w w' : World} {v : Value} {L : List Ln} (h : VLn B w v L) (hb : Below B w w') : VLn B w' v L := by
  obtain ⟨oa, cap, h1, h2, h3⟩ := h
  refine ⟨oa, cap, h1, h2, fun a ha => ⟨(h3 a ha).1, fun i hi => ?_⟩⟩
  have hB := (h3 a ha).1 (by omega)
  obtain ⟨g1, ⟨u, g2, g3⟩, g4⟩ := (h3 a ha).2 i hi
  exact ⟨(hb.cell (p := a.add (i * 3)) (by rw [padd_block]; exact hB)).trans g1, ⟨u, (hb.cell (p := (a.add (i * 3)).add 1) (by rw [padd_block, padd_block]; exact hB)).trans g2, g3.call hb⟩, (hb.cell (p := (a.add (i * 3)).add 2) (by rw [padd_block, padd_block]; exact hB)).trans g4⟩
theorem VLn.at {B : Nat} {w : World} {oa : Option Addr} {n cap : Nat} {L : List Ln} (h : VLn B w (.slice oa n cap) L) {i : Nat} (hi : i < L.length) :
    ∃ a, oa = some a ∧ a.block < B ∧ w.cell? (a.add (i * 3)) = some (.string (L.getD i ln0).name) ∧ (∃ u, w.cell? { block := (a.add (i * 3)).block, off := (a.add (i * 3)).off + 1 } = some u ∧ VPrm B w u (L.getD i ln0).prms) ∧ w.cell? { block := (a.add (i * 3)).block, off := (a.add (i * 3)).off + 2 } = some (.string (L.getD i ln0).value) := by
  obtain ⟨ob, c, h1, h2, h3⟩ := h
  simp only [Value.slice.injEq] at h1
  obtain ⟨rfl, -, rfl⟩ := h1
  obtain ⟨a, rfl⟩ := h2 (by omega)
  obtain ⟨g1, g2, g3⟩ := (h3 a rfl).2 i hi
  exact ⟨a, rfl, (h3 a rfl).1 (by omega), g1, g2, g3⟩
/-- A part below block B, k levels of it. -/
def PartR (B : Nat) : Nat → World → Value → Value → Part → Prop
  | 0, _, u, v, p => (∃ oa cap, u = .slice oa p.lines.length cap) ∧ ∃ oa cap, v = .slice oa p.parts.length cap
  | k + 1, w, u, v, p => VLn B w u p.lines ∧ ∃ oa cap, v = .slice oa p.parts.length cap ∧ (0 < p.parts.length → ∃ a, oa = some a) ∧ ∀ a, oa = some a → (0 < p.parts.length → a.block < B) ∧ ∀ i, i < p.parts.length → w.cell? (a.add (i * 3)) = some (.string (p.parts.getD i part0).name) ∧ ∃ u2 v2, w.cell? ((a.add (i * 3)).add 1) = some u2 ∧ w.cell? ((a.add (i * 3)).add 2) = some v2 ∧ PartR B k w u2 v2 (p.parts.getD i part0)
theorem PartR.call {B : Nat} : ∀ {k : Nat} {w w' : World} {u v : Value} {p : Part}, PartR B k w u v p → Below B w w' → PartR B k w' u v p := by
  intro k
  induction k with
  | zero => intro w w' u v p h _; exact h
  | succ k ih =>
    intro w w' u v p h hb
    obtain ⟨h0, oa, cap, h1, h2, h3⟩ := h
    refine ⟨h0.call hb, oa, cap, h1, h2, fun a ha => ⟨(h3 a ha).1, fun i hi => ?_⟩⟩
    have hB := (h3 a ha).1 (by omega)
    obtain ⟨g1, u2, v2, g2, g3, g4⟩ := (h3 a ha).2 i hi
    exact ⟨(hb.cell (p := a.add (i * 3)) (by rw [padd_block]; exact hB)).trans g1, u2, v2, (hb.cell (p := (a.add (i * 3)).add 1) (by rw [padd_block, padd_block]; exact hB)).trans g2, (hb.cell (p := (a.add (i * 3)).add 2) (by rw [padd_block, padd_block]; exact hB)).trans g3, ih g4 hb⟩
theorem PartR.at {B k : Nat} {w : World} {u : Value} {p : Part} {oa : Option Addr} {n cap : Nat} (h : PartR B (k + 1) w u (.slice oa n cap) p) {i : Nat} (hi : i < p.parts.length) :
    ∃ a, oa = some a ∧ a.block < B ∧ w.cell? (a.add (i * 3)) = some (.string (p.parts.getD i part0).name) ∧ ∃ u2 v2, w.cell? { block := (a.add (i * 3)).block, off := (a.add (i * 3)).off + 1 } = some u2 ∧ w.cell? { block := (a.add (i * 3)).block, off := (a.add (i * 3)).off + 2 } = some v2 ∧ PartR B k w u2 v2 (p.parts.getD i part0) := by
  obtain ⟨-, ob, c, h1, h2, h3⟩ := h
  simp only [Value.slice.injEq] at h1
  obtain ⟨rfl, -, rfl⟩ := h1
  obtain ⟨a, rfl⟩ := h2 (by omega)
  obtain ⟨g1, u2, v2, g2, g3, g4⟩ := (h3 a rfl).2 i hi
  exact ⟨a, rfl, (h3 a rfl).1 (by omega), g1, u2, v2, g2, g3, g4⟩
theorem PartR.forms {B k : Nat} {w : World} {u v : Value} {p : Part} (h : PartR B k w u v p) : (∃ oa cap, u = .slice oa p.lines.length cap) ∧ ∃ oa cap, v = .slice oa p.parts.length cap := by
  cases k with
  | zero => exact h
  | succ k =>
    obtain ⟨⟨oa, cap, h1, -⟩, ob, c2, h2, -⟩ := h
    exact ⟨⟨oa, cap, h1⟩, ob, c2, h2⟩
theorem errV_ne {x : Int} (h : x ≠ 0) : errV x = .iface 26 (.int .i64 x) := errV_hit h
theorem firstE_of {α : Type} {f : α → Int} {l : List α} {N : Int} {k : Nat} (h : N = firstE f (l.drop k)) (d : α) (hk : k < l.length) : (f (l.getD k d) ≠ 0 → N = f (l.getD k d)) ∧ (f (l.getD k d) = 0 → N = firstE f (l.drop (k + 1))) := by
  rw [firstE_drop f d l k hk] at h
  exact ⟨fun g => by rw [h, if_pos g], fun g => by rw [h, if_neg (fun h2 => h2 g)]⟩
theorem okQ_q (c : UInt8) : okQ [34] c = (!ctl c && c != 34) := by
  unfold okQ
  cases h : c == 34 with
  | true => have : c = 34 := by simpa using h
            subst this; rfl
  | false => have h2 : c ≠ 34 := by simpa using h
             simp [h2, bne, h]
theorem okQ_n (c : UInt8) : okQ [] c = !ctl c := by unfold okQ; simp
theorem all_okQ (l : List UInt8) : l.all (okQ [34]) = cleanQ l := by unfold cleanQ; rw [show okQ [34] = fun c => !ctl c && c != 34 from funext okQ_q]
theorem all_okN (l : List UInt8) : l.all (okQ []) = cleanB l := by
  unfold cleanB
  rw [show okQ [] = fun c => !ctl c from funext okQ_n, List.not_any_eq_all_not]
theorem lineE_head {l : Ln} {x : Int} (h : headE l = x) (hx : x ≠ 0) : lineE l = x := by unfold lineE; rw [h, if_pos hx]
theorem lineE_prm {l : Ln} (h : headE l = 0) (hx : firstE prmE l.prms ≠ 0) : lineE l = firstE prmE l.prms := by unfold lineE; rw [if_neg (by simp [h]), if_pos hx]
theorem lineE_tail {l : Ln} (h : headE l = 0) (hx : firstE prmE l.prms = 0) : lineE l = tailE l := by unfold lineE; rw [if_neg (by simp [h]), if_neg (by simp [hx])]
set_option maxRecDepth 100000 in
set_option maxHeartbeats 4000000 in
theorem checkLine_any (B : Nat) (l : Ln) (u : Value) (w : World) (hB : B ≤ w.heap.size) (hR : VPrm B w u l.prms) (hz : bkL l ≤ 1048576) :
    Calls Tryd.prog 58 #[.agg #[.string l.name, u, .string l.value]] w fun e w' => e = .returned (errV (lineE l)) ∧ Below w.heap.size w w' := by
  obtain ⟨s, xs, t⟩ := l
  obtain ⟨oa, cap, rfl, -, -⟩ := id hR
  obtain ⟨n, hn⟩ : ∃ n, xs.length = n := ⟨_, rfl⟩
  simp only at hR hn ⊢
  rw [hn] at hR ⊢
  have HR := Lib.hid hR
  have HN := Lib.hid hn
  have HZ := Lib.hid hz
  have hnb : n ≤ 1048576 := by
    have h1 := sumB_len (f := bkX) (fun x => by unfold bkX; omega) xs
    have h2 := hz
    unfold bkL at h2
    simp only at h2
    omega
  have CN : Hid (∀ w0, Calls Tryd.prog 57 #[.string s] w0 fun e w' => e = .returned (.bool (nameB s.data.toList)) ∧ Below w0.heap.size w0 w') := Lib.hid fun w0 => name_any s w0 (by have := hz; unfold bkL at this; simp only at this; omega)
  clear hR hn hz
  have HB0 := Lib.hid ((Below.refl w.heap.size w).alloc (Nat.le_refl _) (.cells #[.string s, .slice oa n cap, .string t] 64))
  obtain ⟨wB, hwB⟩ : ∃ x, w.alloc (.cells #[.string s, .slice oa n cap, .string t] 64) = x := ⟨_, rfl⟩
  have hlt : w.heap.size < wB.heap.size := by rw [← hwB]; simp
  have HQ : Hid (wB.cell? ⟨w.heap.size, 0, none⟩ = some (.string s) ∧ wB.cell? ⟨w.heap.size, 1, none⟩ = some (.slice oa n cap) ∧ wB.cell? ⟨w.heap.size, 2, none⟩ = some (.string t)) := Lib.hid (by rw [← hwB]; simp [go_sem])
  have SB : Hid (∀ wx, Below wB.heap.size wB wx → w.heap.size < wx.heap.size ∧ wx.cell? ⟨w.heap.size, 0, none⟩ = some (.string s) ∧ wx.cell? ⟨w.heap.size, 1, none⟩ = some (.slice oa n cap) ∧ wx.cell? ⟨w.heap.size, 2, none⟩ = some (.string t)) := Lib.hid fun wx hb => ⟨Nat.lt_of_lt_of_le hlt hb.size, (hb.cell (p := ⟨w.heap.size, 0, none⟩) hlt).trans HQ.out.1, (hb.cell (p := ⟨w.heap.size, 1, none⟩) hlt).trans HQ.out.2.1, (hb.cell (p := ⟨w.heap.size, 2, none⟩) hlt).trans HQ.out.2.2⟩
  have HwB := Lib.hid hwB
  have HBw : Hid (Below w.heap.size w wB) := Lib.hid (by rw [← hwB]; exact HB0.out)
  clear hwB HQ hlt
  have HE8 : Hid (errV 8 = .iface 26 (.int .i64 8)) := Lib.hid (errV_ne (by decide))
  have HE13 : Hid (errV 13 = .iface 26 (.int .i64 13)) := Lib.hid (errV_ne (by decide))
  have HE5 : Hid (errV 5 = .iface 26 (.int .i64 5)) := Lib.hid (errV_ne (by decide))
  cases hN : nameB s.data.toList with
  | false =>
    rw [hN] at CN
    have HL : Hid (lineE ⟨s, xs, t⟩ = 8) := Lib.hid (lineE_head (by unfold headE; rw [if_pos (.inl hN)]) (by decide))
    clear hN
    go_enter Tryd.func58, Tryd.ntmps58
    go_wp2_with (go_at_call 57; refine (CN.out _).mono ?_; rintro e w1 ⟨rfl, hb⟩; rw [HwB.out] at hb; have HB1 := Lib.hid hb; obtain ⟨l0, c0, c1, c2⟩ := SB.out _ hb; clear hb)
    go_ret
    exact ⟨by rw [HL.out, HE8.out]; rfl, thenB HBw.out HB1.out⟩
  | true =>
    rw [hN] at CN
    cases hb1 : (s.toList == [66, 69, 71, 73, 78]) with
    | true =>
      have HL : Hid (lineE ⟨s, xs, t⟩ = 8) := Lib.hid (lineE_head (by unfold headE; rw [if_pos (.inr (.inl (by rw [← Lib.toList_data]; simpa using hb1)))]) (by decide))
      clear hN
      go_enter Tryd.func58, Tryd.ntmps58
      go_wp2_with (go_at_call 57; refine (CN.out _).mono ?_; rintro e w1 ⟨rfl, hb⟩; rw [HwB.out] at hb; have HB1 := Lib.hid hb; obtain ⟨l0, c0, c1, c2⟩ := SB.out _ hb; clear hb)
      go_ret
      exact ⟨by rw [HL.out, HE8.out]; rfl, thenB HBw.out HB1.out⟩
    | false =>
      cases hb2 : (s.toList == [69, 78, 68]) with
      | true =>
        have HL : Hid (lineE ⟨s, xs, t⟩ = 8) := Lib.hid (lineE_head (by unfold headE; rw [if_pos (.inr (.inr (by rw [← Lib.toList_data]; simpa using hb2)))]) (by decide))
        clear hN
        go_enter Tryd.func58, Tryd.ntmps58
        go_wp2_with (go_at_call 57; refine (CN.out _).mono ?_; rintro e w1 ⟨rfl, hb⟩; rw [HwB.out] at hb; have HB1 := Lib.hid hb; obtain ⟨l0, c0, c1, c2⟩ := SB.out _ hb; clear hb)
        go_ret
        exact ⟨by rw [HL.out, HE8.out]; rfl, thenB HBw.out HB1.out⟩
      | false =>
        have HH : Hid (headE ⟨s, xs, t⟩ = 0) := Lib.hid (by
          unfold headE
          rw [if_neg]
          rintro (h | h | h)
          · exact absurd (hN.symm.trans h) (by decide)
          · rw [← Lib.toList_data] at h
            simp only at h
            rw [h] at hb1
            exact absurd hb1 (by decide)
          · rw [← Lib.toList_data] at h
            simp only at h
            rw [h] at hb2
            exact absurd hb2 (by decide))
        clear hN
        go_enter Tryd.func58, Tryd.ntmps58
        go_wp2_with (go_at_call 57; refine (CN.out _).mono ?_; rintro e w1 ⟨rfl, hb⟩; rw [HwB.out] at hb; have HB1 := Lib.hid hb; obtain ⟨l0, c0, c1, c2⟩ := SB.out _ hb; clear hb)
        clear l0 c0 c1 c2 hb1 hb2
        go_loopw [25] (fun c wr => ∃ i : Nat, c = .int .i64 (i : Int) ∧ i ≤ n ∧ Hid (firstE prmE xs = firstE prmE (xs.drop i)) ∧ Hid (Below wB.heap.size wB wr)) (fun c _ => n - (intOf c).toNat)
        case atStart => exact ⟨0, rfl, by omega, Lib.hid (by rw [List.drop_zero]), HB1⟩
        case round =>
          clear HB1
          obtain ⟨i, rfl, hi, HF, HBr⟩ := hrel
          obtain ⟨wA, rfl⟩ : ∃ wo : World, wo = wr := ⟨_, rfl⟩
          have HWA := Lib.hid (thenB HBw.out HBr.out)
          by_cases hin : i < n
          · have hil : i < xs.length := by rw [HN.out]; exact hin
            obtain ⟨a, rfl, hab, x0, u, x1, hU⟩ := (HR.out.call (HWA.out.mono hB)).at hil
            have hfo := firstE_of HF.out prm0 hil
            have hbx : bkX (xs.getD i prm0) ≤ 1048576 := Nat.le_trans (sumB_at bkX prm0 xs i hil) (by have := HZ.out; unfold bkL at this; simp only at this; omega)
            obtain ⟨X, hX⟩ : ∃ X, xs.getD i prm0 = X := ⟨_, rfl⟩
            rw [hX] at x0 hU hfo hbx
            obtain ⟨nm, vs⟩ := X
            simp only at x0 hU
            have hlb := World.block_lt_of_cell? _ _ x0
            have HFO := Lib.hid hfo
            have HBX := Lib.hid hbx
            have k1 : (0 : Int) ≤ (i : Int) := by omega
            have k2 : (i : Int) < (n : Int) := by omega
            have CX : Hid (∀ w0, Calls Tryd.prog 57 #[.string nm] w0 fun e w' => e = .returned (.bool (nameB nm.data.toList)) ∧ Below w0.heap.size w0 w') := Lib.hid fun w0 => name_any nm w0 (by have := hbx; unfold bkX at this; simp only at this; omega)
            obtain ⟨ob, c2, rfl, -, -⟩ := id hU
            obtain ⟨m, hm⟩ : ∃ m, vs.length = m := ⟨_, rfl⟩
            rw [hm] at x1 hU
            have HU := Lib.hid hU
            have HM := Lib.hid hm
            clear hfo hbx hX hil hU hm
            cases hNx : nameB nm.data.toList with
            | false =>
              rw [hNx] at CX
              have hE : prmE ⟨nm, vs⟩ = 8 := if_pos hNx
              have HL : Hid (lineE ⟨s, xs, t⟩ = 8) := Lib.hid (by
                have h2 := HFO.out.1 (by rw [hE]; decide)
                rw [hE] at h2
                rw [lineE_prm HH.out (by rw [h2]; decide), h2])
              clear hNx hE
              go_wp2_with (go_at_call 57; refine (CX.out _).mono ?_; rintro e w2 ⟨rfl, hb⟩; have HB2 := Lib.hid (thenB HWA.out ((Below.refl _ _).alloc (Nat.le_refl _) _) |>.trans (hb.mono (by have := HWA.out.size; simp; omega))); clear hb)
              go_ret
              exact ⟨by rw [HL.out, HE8.out]; rfl, HB2.out⟩
            | true =>
              rw [hNx] at CX
              rcases Nat.eq_zero_or_pos m with hm0 | hm0
              · subst hm0
                have hE : prmE ⟨nm, vs⟩ = 13 := by unfold prmE; rw [if_neg (by simp only; rw [hNx]; decide), if_pos HM.out]
                have HL : Hid (lineE ⟨s, xs, t⟩ = 13) := Lib.hid (by
                  have h2 := HFO.out.1 (by rw [hE]; decide)
                  rw [hE] at h2
                  rw [lineE_prm HH.out (by rw [h2]; decide), h2])
                clear hNx hE
                go_wp2_with (go_at_call 57; refine (CX.out _).mono ?_; rintro e w2 ⟨rfl, hb⟩; have q1 : w2.cell? ⟨wA.heap.size, 1, none⟩ = some (.slice ob 0 c2) := (hb.cell (p := ⟨wA.heap.size, 1, none⟩) (by simp)).trans (by simp); have q2 : wA.heap.size < w2.heap.size := Nat.lt_of_lt_of_le (by simp) hb.size; have HB2 := Lib.hid (thenB HWA.out ((Below.refl _ _).alloc (Nat.le_refl _) _) |>.trans (hb.mono (by have := HWA.out.size; simp; omega))); clear hb)
                go_ret
                exact ⟨by rw [HL.out, HE13.out]; rfl, HB2.out⟩
              · have hmb : m ≤ 1048576 := by
                  have h1 := sumB_len (f := bkV) (fun x => by unfold bkV; omega) vs
                  have h2 := HBX.out
                  have h3 := HM.out
                  unfold bkX at h2
                  simp only at h2
                  omega
                have HPE : Hid (prmE ⟨nm, vs⟩ = firstE valE vs) := Lib.hid (by unfold prmE; rw [if_neg (by simp only; rw [hNx]; decide), if_neg (by simp only; rw [HM.out]; omega)])
                have hm1 : ((m : Int) == 0) = false := beq_eq_false_iff_ne.2 (by omega)
                clear hNx
                go_wp2_with (go_at_call 57; refine (CX.out _).mono ?_; rintro e w2 ⟨rfl, hb⟩; have q1 : w2.cell? ⟨wA.heap.size, 1, none⟩ = some (.slice ob m c2) := (hb.cell (p := ⟨wA.heap.size, 1, none⟩) (by simp)).trans (by simp); have q2 : wA.heap.size < w2.heap.size := Nat.lt_of_lt_of_le (by simp) hb.size; have HB2 := Lib.hid (((Below.refl _ _).alloc (Nat.le_refl _) (.cells #[.string nm, .slice ob m c2] 66)).trans (hb.mono (by simp))); clear hb)
                have HW2 := Lib.hid (thenB HWA.out HB2.out)
                go_loop [42] (fun c => ∃ j : Nat, c = .int .i64 (j : Int) ∧ j ≤ m ∧ Hid (firstE valE vs = firstE valE (vs.drop j))) (fun c => m - (intOf c).toNat)
                case atStart => exact ⟨0, rfl, by omega, Lib.hid (by rw [List.drop_zero])⟩
                case round =>
                  obtain ⟨j, rfl, hj, HG⟩ := hrel
                  by_cases hjm : j < m
                  · have hjl : j < vs.length := by rw [HM.out]; exact hjm
                    obtain ⟨d, hd0⟩ : ∃ d, ob = some d := by
                      obtain ⟨_, _, h1, h2, -⟩ := HU.out
                      simp only [Value.slice.injEq] at h1
                      obtain ⟨rfl, -, -⟩ := h1
                      exact h2 (by omega)
                    subst hd0
                    have y0 := ((HU.out.call (HB2.out.mono (Nat.le_trans hB HWA.out.size))).at hjl)
                    have hgo := firstE_of HG.out ⟨#[]⟩ hjl
                    have hbv : bkV (vs.getD j ⟨#[]⟩) ≤ 1048576 := Nat.le_trans (sumB_at bkV ⟨#[]⟩ vs j hjl) (by have := HBX.out; unfold bkX at this; simp only at this; omega)
                    obtain ⟨V, hV⟩ : ∃ V, vs.getD j ⟨#[]⟩ = V := ⟨_, rfl⟩
                    rw [hV] at y0 hgo hbv
                    have hdb := World.block_lt_of_cell? _ _ y0
                    have HGO := Lib.hid hgo
                    have j1 : (0 : Int) ≤ (j : Int) := by omega
                    have j2 : (j : Int) < (m : Int) := by omega
                    have CC : Hid (∀ w0, Calls Tryd.prog 74 #[.string V, .string ⟨#[34]⟩] w0 fun e w' => e = .returned (.bool (cleanQ V.data.toList)) ∧ w0 = w') := Lib.hid fun w0 => by
                      have := clean_any V ⟨#[34]⟩ w0 (by unfold bkV at hbv; omega)
                      rw [show (⟨#[34]⟩ : ByteArray).data.toList = [34] from rfl, all_okQ] at this
                      exact this
                    clear hgo hbv hV hjl
                    cases hq : cleanQ V.data.toList with
                    | false =>
                      rw [hq] at CC
                      have hE : valE V = 5 := if_neg (by rw [hq]; decide)
                      have HL : Hid (lineE ⟨s, xs, t⟩ = 5) := Lib.hid (by
                        have h1 := HGO.out.1 (by rw [hE]; decide)
                        rw [hE] at h1
                        have h2 := HFO.out.1 (by rw [HPE.out, h1]; decide)
                        rw [HPE.out, h1] at h2
                        rw [lineE_prm HH.out (by rw [h2]; decide), h2])
                      clear hq hE
                      go_wp2_with (go_at_call 74; refine (CC.out _).mono ?_; rintro e w3 ⟨rfl, rfl⟩)
                      go_ret
                      exact ⟨by rw [HL.out, HE5.out]; rfl, HW2.out⟩
                    | true =>
                      rw [hq] at CC
                      have hE : valE V = 0 := if_pos hq
                      have HN2 := Lib.hid (HGO.out.2 hE)
                      clear hq hE
                      go_wp2_with (go_at_call 74; refine (CC.out _).mono ?_; rintro e w3 ⟨rfl, rfl⟩)
                      go_round
                      case rel => exact ⟨j + 1, by go_num, by omega, HN2⟩
                      case measure => simp [intOf]; omega
                  · obtain rfl : j = m := by omega
                    have HN2 := Lib.hid (HFO.out.2 (by rw [HPE.out, HG.out, firstE_end _ _ _ (by rw [HM.out]; exact Nat.le_refl _)]))
                    go_wp2_with fail
                    go_roundw
                    case rel => exact ⟨i + 1, by go_num, by omega, HN2, Lib.hid (thenB HBr.out HB2.out)⟩
                    case measure => simp [intOf]; omega
          · obtain rfl : i = n := by omega
            have HF0 : Hid (lineE ⟨s, xs, t⟩ = tailE ⟨s, xs, t⟩) := Lib.hid (lineE_tail HH.out (by rw [HF.out]; exact firstE_end _ _ _ (by rw [HN.out]; exact Nat.le_refl _)))
            obtain ⟨l0, c0, c1, c2⟩ := SB.out _ HBr.out
            have CC : Hid (∀ w0, Calls Tryd.prog 74 #[.string t, .string ⟨#[]⟩] w0 fun e w' => e = .returned (.bool (cleanB t.data.toList)) ∧ w0 = w') := Lib.hid fun w0 => by
              have := clean_any t ⟨#[]⟩ w0 (by have := HZ.out; unfold bkL at this; simp only at this; omega)
              rw [show (⟨#[]⟩ : ByteArray).data.toList = [] from rfl, all_okN] at this
              exact this
            cases hq : cleanB t.data.toList with
            | false =>
              rw [hq] at CC
              have HL : Hid (lineE ⟨s, xs, t⟩ = 5) := Lib.hid (by rw [HF0.out]; exact if_neg (by simp only; rw [hq]; decide))
              clear hq
              go_wp2_with (go_at_call 74; refine (CC.out _).mono ?_; rintro e w3 ⟨rfl, rfl⟩)
              go_ret
              exact ⟨by rw [HL.out, HE5.out]; rfl, HWA.out⟩
            | true =>
              rw [hq] at CC
              have HL : Hid (lineE ⟨s, xs, t⟩ = 0) := Lib.hid (by rw [HF0.out]; exact if_pos hq)
              clear hq
              go_wp2_with (go_at_call 74; refine (CC.out _).mono ?_; rintro e w3 ⟨rfl, rfl⟩)
              go_ret
              exact ⟨by rw [HL.out]; rfl, HWA.out⟩
end Go.Proofs.YtidgahnamdhflaaDoor
