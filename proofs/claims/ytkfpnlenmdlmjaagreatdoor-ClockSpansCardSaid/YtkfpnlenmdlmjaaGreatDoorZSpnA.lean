/- Times that tell no zone (plainTime, both sides); the closure of ParseSpan; plain: spans as texts. -/
import Derived.Test.YtkfpnlenmdlmjaaGreatDoorZPrsT
import Derived.Test.YtkfpnlenmdlmjaaGreatDoorZG9
namespace Go.Proofs.YtkfpnlenmdlmjaaGreatDoor
open Go.RowKit Scm Go.Shelf
/-- A time that was read: the time, the error, its place. -/
structure TmP where
  loc : Int
  err : Int
  place : Int
def ptP (s : ByteArray) : TmP := if (parP s).err = 0 then (if (parP s).zone = 0 then ⟨(parP s).loc, 0, -1⟩ else ⟨0, 5, (s.size : Int)⟩) else ⟨0, (parP s).err, (parP s).place⟩
def CtPost (T : TmP) (w : World) (e : Ending) (w' : World) : Prop := ∃ v, e = .returned (.tuple #[.int .i64 T.loc, v]) ∧ ErrIs w.heap.size T.err T.place v w' ∧ Below w.heap.size w w'
def RtPost (T : TmP) (w : World) (e : Ending) (w' : World) : Prop := e = .returned (.tuple #[.int .i64 T.loc, .agg #[.int .i64 T.err, .int .i64 T.place]]) ∧ Below w.heap.size w w'
theorem ErrIs.ne {B : Nat} {x pl : Int} {v : Value} {w : World} (h : ErrIs B x pl v w) (hx : x ≠ 0) : (v = .iface 25 (.int .i64 x) ∧ pl = -1) ∨ (∃ p : Nat, v = .iface 105 (.pointer (some ⟨p, 0, none⟩)) ∧ 0 ≤ pl) := by
  rcases h with ⟨h, _⟩ | ⟨_, h1, h2⟩ | ⟨_, h1, p, h2, _⟩
  · exact absurd h hx
  · exact .inl ⟨h2, h1⟩
  · exact .inr ⟨p, h2, h1⟩
set_option maxRecDepth 100000 in
set_option maxHeartbeats 4000000 in
theorem cpt_any (s : ByteArray) (w : World) (hr : RomanT w) (hs : s.size ≤ 9223372036854775807) : Calls Tryz.prog 63 #[.string s] w (CtPost (ptP s) w) := by
  have hC := cparseS_any s w hr hs
  obtain ⟨P, hP⟩ : ∃ P, parP s = P := ⟨_, rfl⟩
  have hT : ptP s = if P.err = 0 then (if P.zone = 0 then ⟨P.loc, 0, -1⟩ else ⟨0, 5, (s.size : Int)⟩) else ⟨0, P.err, P.place⟩ := by rw [← hP]; rfl
  rw [hP] at hC
  obtain ⟨l, z, o, x, pl⟩ := P
  unfold StPost2 at hC
  dsimp only at hC hT
  clear hP hr
  by_cases hx : x = 0
  · subst hx
    have CP : Hid (Calls Tryz.prog 19 #[.string s] w fun e w' => e = .returned (.tuple #[.agg #[.int .i64 l, .int .i64 z, .int .i64 o], .nilIface]) ∧ Below w.heap.size w w') := Lib.hid (hC.mono fun e w' ⟨hb, v, h1, h2⟩ => by
      obtain ⟨rfl, _⟩ := h2.nil rfl
      exact ⟨h1, hb⟩)
    rw [if_pos rfl] at hT
    clear hC
    by_cases hz : z = 0
    · subst hz
      have HT : Hid (ptP s = ⟨l, 0, -1⟩) := Lib.hid (by rw [hT, if_pos rfl])
      clear hT
      go_enter Tryz.func63, Tryz.ntmps63
      go_wp2_with (go_at_call 19; (with_reducible refine CP.out.mono ?_); rintro e w1 ⟨rfl, hb1⟩; have HB1 := Lib.hid hb1; clear hb1)
      go_ret2
      exact ⟨_, by rw [HT.out]; rfl, by rw [HT.out]; exact .inl ⟨rfl, rfl, rfl⟩, HB1.out.alloc HB1.out.size _⟩
    · have hzb : (z == 0) = false := by simpa using hz
      have HT : Hid (ptP s = ⟨0, 5, (s.size : Int)⟩) := Lib.hid (by rw [hT, if_neg hz])
      clear hT hz
      go_enter Tryz.func63, Tryz.ntmps63
      go_wp2_with (go_at_call 19; (with_reducible refine CP.out.mono ?_); rintro e w1 ⟨rfl, hb1⟩; have HB1 := Lib.hid hb1; have HX := Lib.hid (AtBox.new (w1.alloc (.cells #[.int .i64 l, .int .i64 z, .int .i64 o] 24)) 5 (s.size : Int)); clear hb1)
      go_ret2
      have hX := HX.out
      rw [World.size_alloc] at hX
      exact ⟨_, by rw [HT.out]; rfl, by rw [HT.out]; exact .inr (.inr ⟨five_ne, Int.natCast_nonneg _, hX.mono (Nat.le_trans HB1.out.size (Nat.le_succ _))⟩), (HB1.out.alloc HB1.out.size _).alloc (by have := HB1.out.size; simp; omega) _⟩
  · have HT : Hid (ptP s = ⟨0, x, pl⟩) := Lib.hid (by rw [hT, if_neg hx])
    clear hT
    have HX := Lib.hid hx
    have h2 : Calls Tryz.prog 19 #[.string s] w fun e w' => ((∃ a, e = .returned (.tuple #[a, .iface 25 (.int .i64 x)]) ∧ a = .agg #[.int .i64 l, .int .i64 z, .int .i64 o] ∧ ErrIs w.heap.size x pl (.iface 25 (.int .i64 x)) w') ∨ ∃ p : Nat, e = .returned (.tuple #[.agg #[.int .i64 l, .int .i64 z, .int .i64 o], .iface 105 (.pointer (some ⟨p, 0, none⟩))]) ∧ ErrIs w.heap.size x pl (.iface 105 (.pointer (some ⟨p, 0, none⟩))) w') ∧ Below w.heap.size w w' := hC.mono fun e w' ⟨hb, v, h1, h2⟩ => by
      rcases h2.ne hx with ⟨rfl, _⟩ | ⟨p, rfl, _⟩
      · exact ⟨.inl ⟨_, h1, rfl, h2⟩, hb⟩
      · exact ⟨.inr ⟨p, h1, h2⟩, hb⟩
    have C2 := Lib.hid h2
    clear hC h2 hx
    go_enter Tryz.func63, Tryz.ntmps63
    go_wp2_with (go_at_call 19; (with_reducible refine C2.out.mono ?_); rintro e w1 ⟨(⟨a, rfl, rfl, hX⟩ | ⟨p, rfl, hX⟩), hb1⟩ <;> (have HX1 := Lib.hid hX; have HB1 := Lib.hid hb1; clear hX hb1))
    all_goals
      go_ret2
      exact ⟨_, by rw [HT.out]; rfl, by rw [HT.out]; exact HX1.out.call ((Below.refl _ _).alloc (Nat.le_refl _) _), HB1.out.alloc HB1.out.size _⟩
theorem parP_fine {s : ByteArray} : (parP s).err = 0 → (parP s).place = -1 := by
  have hend : ∀ d sc zk zo n k, (endP d sc zk zo n k).err = 0 → (endP d sc zk zo n k).place = -1 := by
    intro d sc zk zo n k
    unfold endP
    split
    · exact fun h => absurd h five_ne
    · repeat (first | exact fun _ => rfl | exact fun h => absurd h ‹_› | split)
  unfold parP parD parC
  repeat (first | exact hend _ _ _ _ _ _ | exact fun h => absurd h ‹_› | split)
set_option maxRecDepth 100000 in
set_option maxHeartbeats 4000000 in
theorem rpt_any (s : ByteArray) (w : World) (hs : s.size ≤ 9223372036854775807) : Calls Tryz.prog 37 #[.string s] w (RtPost (ptP s) w) := by
  have b1 : Below w.heap.size w (w.alloc (.cells #[.int .i64 0, .int .i64 0] 29)) := (Below.refl _ _).alloc (Nat.le_refl _) _
  have hC := rparseS_any s (w.alloc (.cells #[.int .i64 0, .int .i64 0] 29)) hs
  have hpl := parP_fine (s := s)
  obtain ⟨P, hP⟩ : ∃ P, parP s = P := ⟨_, rfl⟩
  have hT : ptP s = if P.err = 0 then (if P.zone = 0 then ⟨P.loc, 0, -1⟩ else ⟨0, 5, (s.size : Int)⟩) else ⟨0, P.err, P.place⟩ := by rw [← hP]; rfl
  rw [hP] at hC hpl
  obtain ⟨l, z, o, x, pl⟩ := P
  unfold RsPost at hC
  dsimp only at hC hT hpl
  have CP := Lib.hid hC
  have HB0 := Lib.hid b1
  have HL0 := Lib.hid (L2.new w 29)
  clear hP hC b1
  have fin : ∀ (W : World) (y0 y1 : Value), L2 w.heap.size y0 y1 W → Below w.heap.size w W → ∀ e p : Int, (L2 w.heap.size (.int .i64 e) (.int .i64 p) ((W.setCell ⟨w.heap.size, 0, none⟩ (.int .i64 e)).setCell ⟨w.heap.size, 1, none⟩ (.int .i64 p))) ∧ Below w.heap.size w ((W.setCell ⟨w.heap.size, 0, none⟩ (.int .i64 e)).setCell ⟨w.heap.size, 1, none⟩ (.int .i64 p)) := fun _ _ _ h1 h2 e p =>
    ⟨h1.put _ _, (h2.setCell (p := ⟨w.heap.size, 0, none⟩) (Nat.le_refl _) _).setCell (p := ⟨w.heap.size, 1, none⟩) (Nat.le_refl _) _⟩
  have FIN := Lib.hid fin
  clear fin
  by_cases hx : x = 0
  · subst hx
    have hpl2 := hpl rfl
    subst hpl2
    rw [if_pos rfl] at hT
    clear hpl
    by_cases hz : z = 0
    · subst hz
      have HT : Hid (ptP s = ⟨l, 0, -1⟩) := Lib.hid (by rw [hT, if_pos rfl])
      clear hT
      go_enter Tryz.func37, Tryz.ntmps37
      go_wp2_with (go_at_call 8; (with_reducible refine CP.out.mono ?_); rintro e w1 ⟨rfl, hb1⟩; have HB1 := Lib.hid (thenB HB0.out hb1); have hL := HL0.out.call hb1; have b2 : Below w1.heap.size w1 ((w1.alloc (.cells #[.int .i64 l, .int .i64 0, .int .i64 o] 24)).alloc (.cells #[.int .i64 0, .int .i64 (-1)] 29)) := ((Below.refl _ _).alloc (Nat.le_refl _) _).alloc (by simp) _; have HL := Lib.hid (hL.call b2); have HB2 := Lib.hid (thenB HB1.out b2); obtain ⟨-, ⟨c0, f0⟩, ⟨c1, f1⟩⟩ := hL.call b2; clear hb1 hL b2)
      go_region_with fail
      all_goals
        go_wp2_with fail
        have hq := FIN.out _ _ _ HL.out HB2.out 0 (-1)
        exact bodyPost_ret (v := .tuple #[.int .i64 l, .agg #[.int .i64 0, .int .i64 (-1)]]) (by simp [results, Tryz.results37, go_sem, hq.1.2.1.1, hq.1.2.2.1]) rfl ⟨by rw [HT.out], hq.2.drew⟩
    · have hzb : (z == 0) = false := by simpa using hz
      have HT : Hid (ptP s = ⟨0, 5, (s.size : Int)⟩) := Lib.hid (by rw [hT, if_neg hz])
      clear hT hz
      go_enter Tryz.func37, Tryz.ntmps37
      go_wp2_with (go_at_call 8; (with_reducible refine CP.out.mono ?_); rintro e w1 ⟨rfl, hb1⟩; have HB1 := Lib.hid (thenB HB0.out hb1); have hL := HL0.out.call hb1; have b2 : Below w1.heap.size w1 ((w1.alloc (.cells #[.int .i64 l, .int .i64 z, .int .i64 o] 24)).alloc (.cells #[.int .i64 5, .int .i64 (s.size : Int)] 29)) := ((Below.refl _ _).alloc (Nat.le_refl _) _).alloc (by simp) _; have HL := Lib.hid (hL.call b2); have HB2 := Lib.hid (thenB HB1.out b2); obtain ⟨-, ⟨c0, f0⟩, ⟨c1, f1⟩⟩ := hL.call b2; clear hb1 hL b2)
      go_region_with fail
      all_goals
        go_wp2_with fail
        have hq := FIN.out _ _ _ HL.out HB2.out 5 (s.size : Int)
        exact bodyPost_ret (v := .tuple #[.int .i64 0, .agg #[.int .i64 5, .int .i64 (s.size : Int)]]) (by simp [results, Tryz.results37, go_sem, hq.1.2.1.1, hq.1.2.2.1]) rfl ⟨by rw [HT.out], hq.2.drew⟩
  · have HT : Hid (ptP s = ⟨0, x, pl⟩) := Lib.hid (by rw [hT, if_neg hx])
    have hxb : (x == 0) = false := by simpa using hx
    clear hT hx hpl
    go_enter Tryz.func37, Tryz.ntmps37
    go_wp2_with (go_at_call 8; (with_reducible refine CP.out.mono ?_); rintro e w1 ⟨rfl, hb1⟩; have HB1 := Lib.hid (thenB HB0.out hb1); have hL := HL0.out.call hb1; have b2 : Below w1.heap.size w1 ((w1.alloc (.cells #[.int .i64 l, .int .i64 z, .int .i64 o] 24)).alloc (.cells #[.int .i64 x, .int .i64 pl] 29)) := ((Below.refl _ _).alloc (Nat.le_refl _) _).alloc (by simp) _; have HL := Lib.hid (hL.call b2); have HB2 := Lib.hid (thenB HB1.out b2); obtain ⟨-, ⟨c0, f0⟩, ⟨c1, f1⟩⟩ := hL.call b2; clear hb1 hL b2)
    go_region_with fail
    all_goals
      go_wp2_with fail
      have hq := FIN.out _ _ _ HL.out HB2.out x pl
      exact bodyPost_ret (v := .tuple #[.int .i64 0, .agg #[.int .i64 x, .int .i64 pl]]) (by simp [results, Tryz.results37, go_sem, hq.1.2.1.1, hq.1.2.2.1]) rfl ⟨by rw [HT.out], hq.2.drew⟩
/-- As ErrIs, its place whatever. -/
def ErrJ (B : Nat) (x pl : Int) (v : Value) (w : World) : Prop := (x = 0 ∧ pl = -1 ∧ v = .nilIface) ∨ (x ≠ 0 ∧ pl = -1 ∧ v = .iface 25 (.int .i64 x)) ∨ (x ≠ 0 ∧ AtBox B x pl v w)
theorem ErrIs.j {B : Nat} {x pl : Int} {v : Value} {w : World} (h : ErrIs B x pl v w) : ErrJ B x pl v w := by
  rcases h with h | h | ⟨h1, _, h2⟩
  · exact .inl h
  · exact .inr (.inl h)
  · exact .inr (.inr ⟨h1, h2⟩)
theorem ErrJ.call {B : Nat} {x pl : Int} {v : Value} {w w' : World} (h : ErrJ B x pl v w) (hb : Below w.heap.size w w') : ErrJ B x pl v w' := by
  rcases h with h | h | ⟨h1, h2⟩
  · exact .inl h
  · exact .inr (.inl h)
  · exact .inr (.inr ⟨h1, h2.call hb⟩)
theorem ErrJ.mono {B C : Nat} {x pl : Int} {v : Value} {w : World} (h : ErrJ B x pl v w) (hC : C ≤ B) : ErrJ C x pl v w := by
  rcases h with h | h | ⟨h1, h2⟩
  · exact .inl h
  · exact .inr (.inl h)
  · exact .inr (.inr ⟨h1, h2.mono hC⟩)
theorem tell_isJ {B : Nat} {x pl : Int} {v : Value} {w : World} (h : ErrJ B x pl v w) (hT : ErrT w) : Calls Tryz.prog 20 #[v] w fun e w' => e = .returned (.int .i64 x) ∧ Below w.heap.size w w' := by
  rcases h with ⟨rfl, _, rfl⟩ | ⟨_, _, rfl⟩ | ⟨_, p, rfl, h0, _⟩
  · exact tell_nil w
  · exact tell_hit x w hT
  · exact tell_at ⟨p, 0, none⟩ x w hT h0
theorem where_isJ {B : Nat} {x pl : Int} {v : Value} {w : World} (h : ErrJ B x pl v w) (hT : ErrT w) : Calls Tryz.prog 21 #[v] w fun e w' => e = .returned (.int .i64 pl) ∧ Below w.heap.size w w' := by
  rcases h with ⟨_, rfl, rfl⟩ | ⟨_, rfl, rfl⟩ | ⟨_, p, rfl, _, h1, _⟩
  · exact where_nil w
  · exact where_errno x w hT
  · exact where_at p 0 pl w hT h1
/-- A place behind the text's first part. -/
def lat (k : Nat) (p : Int) : Int := IntKind.i64.wrap (IntKind.i64.wrap (p + (k : Int)) + 1)
def latE (k : Nat) (p : Int) : Int := if 0 ≤ p then lat k p else p
set_option maxRecDepth 100000 in
set_option maxHeartbeats 4000000 in
theorem later_any {B : Nat} {x pl : Int} {v : Value} (a : ByteArray) (ba : Nat) (w : World) (hT : ErrT w) (h : ErrIs B x pl v w) (hx : x ≠ 0) (hB : B ≤ w.heap.size) (ha : w.cell? ⟨ba, 0, none⟩ = some (.string a)) :
    Calls Tryz.prog 61 #[v, .pointer (some ⟨ba, 0, none⟩)] w fun e w' => ∃ v', e = .returned v' ∧ ErrJ B x (latE a.size pl) v' w' ∧ Below w.heap.size w w' := by
  have hlt := hT.lt
  have hg := hT
  unfold ErrT at hg
  have hgA : (w.alloc (.cells #[.pointer none] 105)).cell? ⟨0, 0, none⟩ = some (.iface 186 (.agg #[.pointer (some ⟨6, 49, none⟩)])) := by
    rw [World.cell?_alloc_lt _ _ ⟨0, 0, none⟩ hlt]; exact hg
  have htA : (w.alloc (.cells #[.pointer none] 105)).cell? ⟨w.heap.size, 0, none⟩ = some (.pointer none) := by simp
  have hfA : (w.alloc (.cells #[.pointer none] 105)).frozen? ⟨w.heap.size, 0, none⟩ = false := by simp
  have hal : ba < w.heap.size := by
    rcases Nat.lt_or_ge ba w.heap.size with h | h
    · exact h
    · simp [World.cell?, Array.getElem?_eq_none h] at ha
  have haA : (w.alloc (.cells #[.pointer none] 105)).cell? ⟨ba, 0, none⟩ = some (.string a) := by rw [World.cell?_alloc_lt _ _ ⟨ba, 0, none⟩ hal]; exact ha
  have HA : Hid (Below w.heap.size w (w.alloc (.cells #[.pointer none] 105))) := Lib.hid ((Below.refl _ _).alloc (Nat.le_refl _) _)
  rcases h.ne hx with ⟨rfl, hpl⟩ | ⟨p, rfl, hpl⟩
  · have HX : Hid (latE a.size pl = -1) := Lib.hid (by rw [hpl]; exact if_neg (by decide))
    have Hx := Lib.hid hx
    clear hT hg h hpl hx hlt ha
    go_enter Tryz.func61, Tryz.ntmps61
    go_wp2_with (go_at_call 47; refine (as_errno_at x _ (.pointer none) _ hgA htA).mono ?_; rintro e w1 ⟨rfl, hb1⟩; have HB1 := Lib.hid (thenB HA.out hb1); clear hb1)
    go_ret
    exact ⟨_, rfl, .inr (.inl ⟨Hx.out, HX.out, rfl⟩), HB1.out⟩
  · have hbox : AtBox B x pl (.iface 105 (.pointer (some ⟨p, 0, none⟩))) w := by
      rcases h with ⟨h, _⟩ | ⟨_, _, h⟩ | ⟨_, _, h⟩
      · exact absurd h hx
      · exact Value.noConfusion h (fun h1 _ => absurd h1 (by decide))
      · exact h
    obtain ⟨p', hp', hp0, hp1, hplt, -⟩ := hbox
    cases hp'
    have hp0A : (w.alloc (.cells #[.pointer none] 105)).cell? ⟨p, 0, none⟩ = some (.int .i64 x) := by rw [World.cell?_alloc_lt _ _ ⟨p, 0, none⟩ hplt]; exact hp0
    have hp1A : (w.alloc (.cells #[.pointer none] 105)).cell? ⟨p, 1, none⟩ = some (.int .i64 pl) := by rw [World.cell?_alloc_lt _ _ ⟨p, 1, none⟩ hplt]; exact hp1
    have HX : Hid (latE a.size pl = lat a.size pl) := Lib.hid (if_pos hpl)
    have Hx := Lib.hid hx
    obtain ⟨q1, hq1⟩ : ∃ q, IntKind.i64.wrap (pl + (a.size : Int)) = q := ⟨_, rfl⟩
    obtain ⟨q2, hq2⟩ : ∃ q, IntKind.i64.wrap (q1 + 1) = q := ⟨_, rfl⟩
    have HQ : Hid (lat a.size pl = q2) := Lib.hid (by unfold lat; rw [hq1, hq2])
    have HB := Lib.hid hB
    clear hT hg h hpl hx hlt ha hp0 hp1 hB
    go_enter Tryz.func61, Tryz.ntmps61
    go_wp2_with (go_at_call 47; refine (as_selfB ⟨p, 0, none⟩ _ (.pointer none) _ hgA htA hfA).mono ?_; rintro e w1 ⟨rfl, ht1, hb1⟩; have hz1 := (hb1.cell (p := ⟨p, 0, none⟩) hplt).trans hp0A; have hz2 := (hb1.cell (p := ⟨p, 1, none⟩) hplt).trans hp1A; have hz3 := (hb1.cell (p := ⟨ba, 0, none⟩) hal).trans haA; have HB1 := Lib.hid (HA.out.trans hb1); clear hb1)
    go_region_with fail
    all_goals
      go_wp2_with fail
      go_ret
      have hX := AtBox.new w1 x q2
      exact ⟨_, rfl, by rw [HX.out, HQ.out]; exact .inr (.inr ⟨Hx.out, hX.mono (Nat.le_trans HB.out HB1.out.size)⟩), (HB1.out.alloc HB1.out.size _).drew⟩
end Go.Proofs.YtkfpnlenmdlmjaaGreatDoor
