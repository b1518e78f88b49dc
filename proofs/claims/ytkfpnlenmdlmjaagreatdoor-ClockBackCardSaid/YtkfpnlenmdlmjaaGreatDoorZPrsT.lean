/- clock.Parse, all its ways; the document's Parse. Printed by a program of mine. -/
import Derived.Test.YtkfpnlenmdlmjaaGreatDoorZPrsG
import Derived.Test.YtkfpnlenmdlmjaaGreatDoorZPrsS
import Derived.Test.YtkfpnlenmdlmjaaGreatDoorZQTail
namespace Go.Proofs.YtkfpnlenmdlmjaaGreatDoor
open Go.RowKit Scm
theorem zoneP_place {s : ByteArray} {wd : Bool} {k : Nat} (hp : (zoneP s wd k).place ≠ -1) : 0 ≤ (zoneP s wd k).place := by
  have key : ∀ D : ZnP, D.place = -1 ∨ 0 ≤ D.place → D.place ≠ -1 → 0 ≤ D.place := fun D h h2 => h.resolve_left h2
  refine key _ ?_ hp
  unfold zoneP znP badZ
  repeat (first | exact .inr (Int.natCast_nonneg _) | exact .inl rfl | split)
theorem cparseS_any (s : ByteArray) (w : World) (hr : RomanT w) (hs : s.size ≤ 9223372036854775807) : Calls Tryz.prog 19 #[.string s] w (StPost2 (parP s) w) := by
  by_cases hx : (dayP s 0).err = 0
  · cases hT : isB s (dayP s 0).at_ 84 with
    | false => exact cparseS_noT s w hr hs hx hT
    | true =>
      by_cases hc : (clockP s (dayP s 0).wide ((dayP s 0).at_ + 1)).err = 0
      · by_cases hz : (zoneP s (dayP s 0).wide (clockP s (dayP s 0).wide ((dayP s 0).at_ + 1)).at_).err = 0
        · by_cases hf : (clockP s (dayP s 0).wide ((dayP s 0).at_ + 1)).sec = 86400
          · exact cparseS_Tfull s w hr hs _ _ _ rfl rfl rfl hx hT hf hc hz
          · exact cparseS_Tpart s w hr hs _ _ _ rfl rfl rfl hx hT hf hc hz
        · by_cases hp : (zoneP s (dayP s 0).wide (clockP s (dayP s 0).wide ((dayP s 0).at_ + 1)).at_).place = -1
          · exact cparseS_zerrno s w hr hs _ _ _ rfl rfl rfl hx hT hc hz hp
          · exact cparseS_zbox s w hr hs _ _ _ rfl rfl rfl hx hT hc hz hp (zoneP_place hp)
      · by_cases hp : (clockP s (dayP s 0).wide ((dayP s 0).at_ + 1)).place = -1
        · exact cparseS_cerrno s w hr hs hx hT hc hp
        · exact cparseS_cbox s w hr hs hx hT hc hp
  · by_cases hp : (dayP s 0).place = -1
    · exact cparseS_errno s w hr hs hx hp
    · exact cparseS_box s w hr hs hx hp
/-- How far the document's reading of a stamp has come. -/
def RP (w : World) (s : ByteArray) (k B : Nat) (e p l z o : Int) (x : World) : Prop :=
  L3 w.heap.size 0 0 0 x ∧ L2 (w.heap.size + 1) (.int .i64 0) (.int .i64 0) x ∧ ScanAt (w.heap.size + 1 + 1) s (k : Int) x ∧ L2 B (.int .i64 e) (.int .i64 p) x ∧ L3 (B + 1) l z o x ∧ Below w.heap.size w x ∧ w.heap.size + 1 + 1 < B
theorem RP.only {w : World} {s : ByteArray} {k k' B : Nat} {e p l z o : Int} {x x' : World} (h : RP w s k B e p l z o x) (hS : ScanAt (w.heap.size + 1 + 1) s (k' : Int) x') (hO : Only (w.heap.size + 1 + 1) x x') : RP w s k' B e p l z o x' := by
  obtain ⟨h1, h2, h3, h4, h5, h6, h7⟩ := h
  exact ⟨h1.only hO (by omega), h2.only hO (by omega), hS, h4.only hO (by omega), h5.only hO (by omega), h6.trans (hO.1.mono (by omega)), h7⟩
theorem RP.call {w : World} {s : ByteArray} {k B : Nat} {e p l z o : Int} {x x' : World} (h : RP w s k B e p l z o x) (hb : Below x.heap.size x x') : RP w s k B e p l z o x' := by
  obtain ⟨h1, h2, h3, h4, h5, h6, h7⟩ := h
  exact ⟨h1.call hb, h2.call hb, h3.call hb, h4.call hb, h5.call hb, thenB h6 hb, h7⟩
theorem RP.drewN {w : World} {s : ByteArray} {k B : Nat} {e p l z o : Int} {x : World} (h : RP w s k B e p l z o x) (q : Nat) : RP w s k B e p l z o (x.drewN q) := by
  obtain ⟨h1, h2, h3, h4, h5, h6, h7⟩ := h
  exact ⟨h1.drewN q, h2.drewN q, h3.drewN q, h4.drewN q, h5.drewN q, below_drewN h6 q, h7⟩
theorem RP.putb {w : World} {s : ByteArray} {k B : Nat} {e p l z o : Int} {x : World} (h : RP w s k B e p l z o x) (e' p' : Int) : RP w s k B e' p' l z o ((x.setCell ⟨B, 0, none⟩ (.int .i64 e')).setCell ⟨B, 1, none⟩ (.int .i64 p')) := by
  obtain ⟨h1, h2, h3, h4, h5, h6, h7⟩ := h
  exact ⟨(h1.far (p := ⟨B, 0, none⟩) (by show B ≠ w.heap.size; omega) _).far (p := ⟨B, 1, none⟩) (by show B ≠ w.heap.size; omega) _, (h2.far (p := ⟨B, 0, none⟩) (by show w.heap.size + 1 ≠ B; omega) _).far (p := ⟨B, 1, none⟩) (by show w.heap.size + 1 ≠ B; omega) _, h3.res h7 _ _, h4.put _ _, (h5.far (p := ⟨B, 0, none⟩) (by show B ≠ B + 1; omega) _).far (p := ⟨B, 1, none⟩) (by show B ≠ B + 1; omega) _, (h6.setCell (p := ⟨B, 0, none⟩) (by show w.heap.size ≤ B; omega) _).setCell (p := ⟨B, 1, none⟩) (by show w.heap.size ≤ B; omega) _, h7⟩
theorem RP.put1 {w : World} {s : ByteArray} {k B : Nat} {e p l z o : Int} {x : World} (h : RP w s k B e p l z o x) (z' : Int) : RP w s k B e p l z' o (x.setCell ⟨B + 1, 1, none⟩ (.int .i64 z')) := by
  obtain ⟨h1, h2, h3, h4, h5, h6, h7⟩ := h
  exact ⟨h1.far (p := ⟨B + 1, 1, none⟩) (by show B + 1 ≠ w.heap.size; omega) _, h2.far (p := ⟨B + 1, 1, none⟩) (by show w.heap.size + 1 ≠ B + 1; omega) _, h3.off ⟨B + 1, 1, none⟩ (by show B + 1 ≠ w.heap.size + 1 + 1; omega) _, h4.far (p := ⟨B + 1, 1, none⟩) (by show B ≠ B + 1; omega) _, h5.put1 _, h6.setCell (p := ⟨B + 1, 1, none⟩) (by show w.heap.size ≤ B + 1; omega) _, h7⟩
theorem RP.put2 {w : World} {s : ByteArray} {k B : Nat} {e p l z o : Int} {x : World} (h : RP w s k B e p l z o x) (o' : Int) : RP w s k B e p l z o' (x.setCell ⟨B + 1, 2, none⟩ (.int .i64 o')) := by
  obtain ⟨h1, h2, h3, h4, h5, h6, h7⟩ := h
  exact ⟨h1.far (p := ⟨B + 1, 2, none⟩) (by show B + 1 ≠ w.heap.size; omega) _, h2.far (p := ⟨B + 1, 2, none⟩) (by show w.heap.size + 1 ≠ B + 1; omega) _, h3.off ⟨B + 1, 2, none⟩ (by show B + 1 ≠ w.heap.size + 1 + 1; omega) _, h4.far (p := ⟨B + 1, 2, none⟩) (by show B ≠ B + 1; omega) _, h5.put2 _, h6.setCell (p := ⟨B + 1, 2, none⟩) (by show w.heap.size ≤ B + 1; omega) _, h7⟩
theorem RP.put0 {w : World} {s : ByteArray} {k B : Nat} {e p l z o : Int} {x : World} (h : RP w s k B e p l z o x) (l' : Int) : RP w s k B e p l' z o (x.setCell ⟨B + 1, 0, none⟩ (.int .i64 l')) := by
  obtain ⟨h1, h2, h3, h4, h5, h6, h7⟩ := h
  exact ⟨h1.far (p := ⟨B + 1, 0, none⟩) (by show B + 1 ≠ w.heap.size; omega) _, h2.far (p := ⟨B + 1, 0, none⟩) (by show w.heap.size + 1 ≠ B + 1; omega) _, h3.off ⟨B + 1, 0, none⟩ (by show B + 1 ≠ w.heap.size + 1 + 1; omega) _, h4.far (p := ⟨B + 1, 0, none⟩) (by show B ≠ B + 1; omega) _, h5.put0 _, h6.setCell (p := ⟨B + 1, 0, none⟩) (by show w.heap.size ≤ B + 1; omega) _, h7⟩
/-- The first three boxes. -/
def R3 (w : World) (s : ByteArray) (k : Nat) (x : World) : Prop :=
  L3 w.heap.size 0 0 0 x ∧ L2 (w.heap.size + 1) (.int .i64 0) (.int .i64 0) x ∧ ScanAt (w.heap.size + 1 + 1) s (k : Int) x ∧ Below w.heap.size w x
theorem R3.new (w : World) (s : ByteArray) (t1 t2 t3 : TypeId) : R3 w s 0 (((w.alloc (.cells #[.int .i64 0, .int .i64 0, .int .i64 0] t1)).alloc (.cells #[.int .i64 0, .int .i64 0] t2)).alloc (.cells #[.string s, .int .i64 0] t3)) := by
  have b1 : Below w.heap.size w (w.alloc (.cells #[.int .i64 0, .int .i64 0, .int .i64 0] t1)) := (Below.refl _ _).alloc (Nat.le_refl _) _
  have q1 := L2.new (w.alloc (.cells #[.int .i64 0, .int .i64 0, .int .i64 0] t1)) t2
  have q2 := ScanAt.new ((w.alloc (.cells #[.int .i64 0, .int .i64 0, .int .i64 0] t1)).alloc (.cells #[.int .i64 0, .int .i64 0] t2)) s 0 t3
  rw [World.size_alloc] at q1
  rw [World.size_alloc, World.size_alloc] at q2
  refine ⟨((L3.new w t1).call ((Below.refl _ _).alloc (Nat.le_refl _) _)).call ((Below.refl _ _).alloc (Nat.le_refl _) _), q1.call ((Below.refl _ _).alloc (Nat.le_refl _) _), q2, (b1.alloc (by simp) _).alloc (by simp <;> omega) _⟩
theorem R3.only {w : World} {s : ByteArray} {k k' : Nat} {x x' : World} (h : R3 w s k x) (hS : ScanAt (w.heap.size + 1 + 1) s (k' : Int) x') (hO : Only (w.heap.size + 1 + 1) x x') : R3 w s k' x' := by
  obtain ⟨h1, h2, _, h6⟩ := h
  exact ⟨h1.only hO (by omega), h2.only hO (by omega), hS, h6.trans (hO.1.mono (by omega))⟩
theorem R3.call {w : World} {s : ByteArray} {k : Nat} {x x' : World} (h : R3 w s k x) (hb : Below x.heap.size x x') : R3 w s k x' := by
  obtain ⟨h1, h2, h3, h6⟩ := h
  exact ⟨h1.call hb, h2.call hb, h3.call hb, thenB h6 hb⟩
theorem R3.res {w : World} {s : ByteArray} {k B : Nat} {x : World} (h : R3 w s k x) (hB : w.heap.size + 1 + 1 < B) (y0 y1 : Value) : R3 w s k ((x.setCell ⟨B, 0, none⟩ y0).setCell ⟨B, 1, none⟩ y1) := by
  obtain ⟨h1, h2, h3, h6⟩ := h
  exact ⟨(h1.far (p := ⟨B, 0, none⟩) (by show B ≠ w.heap.size; omega) _).far (p := ⟨B, 1, none⟩) (by show B ≠ w.heap.size; omega) _, (h2.far (p := ⟨B, 0, none⟩) (by show w.heap.size + 1 ≠ B; omega) _).far (p := ⟨B, 1, none⟩) (by show w.heap.size + 1 ≠ B; omega) _, h3.res hB _ _, (h6.setCell (p := ⟨B, 0, none⟩) (by show w.heap.size ≤ B; omega) _).setCell (p := ⟨B, 1, none⟩) (by show w.heap.size ≤ B; omega) _⟩
theorem L2.box (w : World) (a b : Value) (t : TypeId) : L2 w.heap.size a b (w.alloc (.cells #[a, b] t)) := ⟨by simp, ⟨by simp, by simp⟩, ⟨by simp, by simp⟩⟩
theorem R3.day {w : World} {s : ByteArray} {k : Nat} {x : World} (h : R3 w s k x) (e p : Int) (t : TypeId) :
    R3 w s k (x.alloc (.cells #[.int .i64 e, .int .i64 p] t)) ∧ L2 x.heap.size (.int .i64 e) (.int .i64 p) (x.alloc (.cells #[.int .i64 e, .int .i64 p] t)) :=
  ⟨h.call ((Below.refl _ _).alloc (Nat.le_refl _) _), L2.box x _ _ t⟩
theorem R3.begin {w : World} {s : ByteArray} {k : Nat} {x : World} (h : R3 w s k x) (e p : Int) (t t2 : TypeId) :
    RP w s k x.heap.size e p 0 0 0 ((x.alloc (.cells #[.int .i64 e, .int .i64 p] t)).alloc (.cells #[.int .i64 0, .int .i64 0, .int .i64 0] t2)) := by
  obtain ⟨q1, q2⟩ := h.day e p t
  have q3 := L3.new (x.alloc (.cells #[.int .i64 e, .int .i64 p] t)) t2
  rw [World.size_alloc] at q3
  have b : Below (x.alloc (.cells #[.int .i64 e, .int .i64 p] t)).heap.size (x.alloc (.cells #[.int .i64 e, .int .i64 p] t)) _ := (Below.refl _ _).alloc (Nat.le_refl _) (.cells #[.int .i64 0, .int .i64 0, .int .i64 0] t2)
  obtain ⟨h1, h2, h3, h6⟩ := q1.call b
  exact ⟨h1, h2, h3, q2.call b, q3, h6, h.2.2.1.1⟩
theorem R3.fin {w : World} {s : ByteArray} {k : Nat} {x : World} (h : R3 w s k x) (a0 a1 a2 y0 y1 : Int) :
    L3 w.heap.size a0 a1 a2 (((((x.setCell ⟨w.heap.size, 0, none⟩ (.int .i64 a0)).setCell ⟨w.heap.size, 1, none⟩ (.int .i64 a1)).setCell ⟨w.heap.size, 2, none⟩ (.int .i64 a2)).setCell ⟨w.heap.size + 1, 0, none⟩ (.int .i64 y0)).setCell ⟨w.heap.size + 1, 1, none⟩ (.int .i64 y1)) ∧
    L2 (w.heap.size + 1) (.int .i64 y0) (.int .i64 y1) (((((x.setCell ⟨w.heap.size, 0, none⟩ (.int .i64 a0)).setCell ⟨w.heap.size, 1, none⟩ (.int .i64 a1)).setCell ⟨w.heap.size, 2, none⟩ (.int .i64 a2)).setCell ⟨w.heap.size + 1, 0, none⟩ (.int .i64 y0)).setCell ⟨w.heap.size + 1, 1, none⟩ (.int .i64 y1)) ∧
    Below w.heap.size w (((((x.setCell ⟨w.heap.size, 0, none⟩ (.int .i64 a0)).setCell ⟨w.heap.size, 1, none⟩ (.int .i64 a1)).setCell ⟨w.heap.size, 2, none⟩ (.int .i64 a2)).setCell ⟨w.heap.size + 1, 0, none⟩ (.int .i64 y0)).setCell ⟨w.heap.size + 1, 1, none⟩ (.int .i64 y1)) := by
  obtain ⟨h1, h2, h3, h6⟩ := h
  have hn : w.heap.size + 1 ≠ w.heap.size := by omega
  refine ⟨((((h1.put0 a0).put1 a1).put2 a2).far (p := ⟨w.heap.size + 1, 0, none⟩) hn _).far (p := ⟨w.heap.size + 1, 1, none⟩) hn _, ((((h2.far (p := ⟨w.heap.size, 0, none⟩) hn _).far (p := ⟨w.heap.size, 1, none⟩) hn _).far (p := ⟨w.heap.size, 2, none⟩) hn _)).put _ _, ?_⟩
  exact ((((h6.setCell (p := ⟨w.heap.size, 0, none⟩) (Nat.le_refl _) _).setCell (p := ⟨w.heap.size, 1, none⟩) (Nat.le_refl _) _).setCell (p := ⟨w.heap.size, 2, none⟩) (Nat.le_refl _) _).setCell (p := ⟨w.heap.size + 1, 0, none⟩) (Nat.le_succ _) _).setCell (p := ⟨w.heap.size + 1, 1, none⟩) (Nat.le_succ _) _
theorem RP.r3 {w : World} {s : ByteArray} {k B : Nat} {e p l z o : Int} {x : World} (h : RP w s k B e p l z o x) : R3 w s k x := ⟨h.1, h.2.1, h.2.2.1, h.2.2.2.2.2.1⟩
theorem R3.drewN {w : World} {s : ByteArray} {k : Nat} {x : World} (h : R3 w s k x) (q : Nat) : R3 w s k (x.drewN q) := ⟨h.1.drewN q, h.2.1.drewN q, h.2.2.1.drewN q, below_drewN h.2.2.2 q⟩
theorem R3.scan {w : World} {s : ByteArray} {k : Nat} {x : World} (h : R3 w s k x) : ScanAt (w.heap.size + 1 + 1) s (k : Int) x := h.2.2.1
theorem RP.scan {w : World} {s : ByteArray} {k B : Nat} {e p l z o : Int} {x : World} (h : RP w s k B e p l z o x) : ScanAt (w.heap.size + 1 + 1) s (k : Int) x := h.2.2.1
/-- What the document's Parse answers. -/
def RsPost (P : StP) (w : World) (e : Ending) (w' : World) : Prop :=
  e = .returned (.tuple #[.agg #[.int .i64 P.loc, .int .i64 P.zone, .int .i64 P.off], .agg #[.int .i64 P.err, .int .i64 P.place]]) ∧ Below w.heap.size w w'
theorem RdPost.ok {b : Nat} {s : ByteArray} {P : DayP} {w w' : World} {e : Ending} (h : RdPost b s P w e w') (hx : P.err = 0) : e = .returned (.tuple #[.int .i64 P.day, .bool P.wide, .agg #[.int .i64 0, .int .i64 P.place]]) ∧ ScanAt b s (P.at_ : Int) w' ∧ Only b w w' := by
  obtain ⟨D, rfl, h1, h3, h4⟩ := h
  exact ⟨by rw [h1 hx, hx], h3, h4⟩
theorem RcPost.ok {b : Nat} {s : ByteArray} {P : CkP} {w w' : World} {e : Ending} (h : RcPost b s P w e w') (hx : P.err = 0) : e = .returned (.tuple #[.int .i64 P.sec, .agg #[.int .i64 0, .int .i64 P.place]]) ∧ ScanAt b s (P.at_ : Int) w' ∧ Only b w w' := by
  obtain ⟨D, rfl, h1, h3, h4⟩ := h
  exact ⟨by rw [h1 hx, hx], h3, h4⟩
theorem RzPost.ok {b : Nat} {s : ByteArray} {P : ZnP} {w w' : World} {e : Ending} (h : RzPost b s P w e w') (hx : P.err = 0) : e = .returned (.tuple #[.int .i64 P.kind, .int .i64 P.off, .agg #[.int .i64 0, .int .i64 P.place]]) ∧ ScanAt b s (P.at_ : Int) w' ∧ Only b w w' := by
  obtain ⟨K, O, rfl, h1, h3, h4⟩ := h
  exact ⟨by rw [(h1 hx).1, (h1 hx).2, hx], h3, h4⟩
theorem ckEnd_sec {h m z k : Nat} : (ckEnd h m z k).err = 0 → (ckEnd h m z k).sec = 86400 ∨ 0 ≤ (ckEnd h m z k).sec ∧ (ckEnd h m z k).sec < 86400 := by
  unfold ckEnd
  split
  · exact fun _ => .inl rfl
  · split
    · exact fun h => absurd h three_ne
    · intro _; dsimp only; omega
theorem clockP_sec {s : ByteArray} {wd : Bool} {k : Nat} : (clockP s wd k).err = 0 → (clockP s wd k).sec = 86400 ∨ 0 ≤ (clockP s wd k).sec ∧ (clockP s wd k).sec < 86400 := by
  unfold clockP badC
  repeat (first | exact ckEnd_sec | exact fun h => absurd h five_ne | split)
theorem joinE_range {d s : Int} (h1 : 0 ≤ s) (h2 : s < 86400) : joinE d s = rangeE d := by
  unfold joinE rangeE; rw [if_neg (by omega)]
theorem joinR_good {d s : Int} (h : joinE d s = 0) : joinR d s = d * 86400 + s ∧ -4000000 ≤ d ∧ d ≤ 4000000 := by
  refine ⟨if_pos h, ?_⟩
  unfold joinE at h
  split at h
  · exact absurd h (by decide)
  · split at h
    · assumption
    · exact absurd h (by decide)
set_option maxRecDepth 100000 in
set_option maxHeartbeats 8000000 in
theorem rparse_day (s : ByteArray) (w : World) (hs : s.size ≤ 9223372036854775807) (P : DayP) (hP : dayP s 0 = P) (hx : P.err ≠ 0) :
    Calls Tryz.prog 8 #[.string s] w (RsPost (parP s) w) := by
  have HR0 : Hid (R3 w s 0 (((w.alloc (.cells #[.int .i64 0, .int .i64 0, .int .i64 0] 24)).alloc (.cells #[.int .i64 0, .int .i64 0] 29)).alloc (.cells #[.string s, .int .i64 0] 56))) := Lib.hid (R3.new w s _ _ _)
  have HP : Hid (parP s = ⟨0, 0, 0, P.err, P.place⟩) := Lib.hid (by unfold parP parD; rw [hP, if_neg hx])
  have CD := Lib.hid (fun w0 (h : ScanAt (w.heap.size + 1 + 1) s ((0 : Nat) : Int) w0) => (rday_any (w.heap.size + 1 + 1) s 0 w0 h (Nat.zero_le _) hs).mono fun e w' (h : RdPost _ _ _ _ _ _) => show ∃ D, e = .returned (.tuple #[.int .i64 D, .bool P.wide, .agg #[.int .i64 P.err, .int .i64 P.place]]) ∧ ScanAt (w.heap.size + 1 + 1) s (P.at_ : Int) w' ∧ Only (w.heap.size + 1 + 1) w0 w' from by obtain ⟨D, h1, _, h3, h4⟩ := h; rw [hP] at h1 h3; exact ⟨D, h1, h3, h4⟩)
  obtain ⟨EE, hEE⟩ : ∃ x, P.err = x := ⟨_, rfl⟩; obtain ⟨PL, hPL⟩ : ∃ x, P.place = x := ⟨_, rfl⟩; rw [hEE] at CD HP hx; rw [hPL] at CD HP
  have hxb : (EE == 0) = false := by simpa using hx
  clear hP hEE hPL hx
  go_enter Tryz.func8, Tryz.ntmps8
  go_wp2_with (first
    | (go_at_call 22; (with_reducible refine (CD.out _ HR0.out.scan).mono ?_); rintro e w1 ⟨D, rfl, hS, hO⟩; have hR := HR0.out.only hS hO; have hX := hR.day EE PL 29; have HX1 := Lib.hid hX; have hz1 := hR.2.2.1.1; obtain ⟨z0, ⟨c0, f0⟩, ⟨c1, f1⟩, ⟨c2, f2⟩⟩ := hX.1.1; obtain ⟨-, ⟨d0, g0⟩, ⟨d1, g1⟩⟩ := hX.1.2.1; obtain ⟨-, ⟨m0, n0⟩, ⟨m1, n1⟩⟩ := hX.2; clear hS hO hR hX))
  go_region_with fail
  all_goals
    go_wp2_with fail
    have hq := HX1.out.1.fin (0) (0) (0) (EE) (PL)
    exact bodyPost_ret (v := .tuple #[.agg #[.int .i64 (0), .int .i64 (0), .int .i64 (0)], .agg #[.int .i64 (EE), .int .i64 (PL)]]) (by simp [results, Tryz.results8, go_sem, hq.1.2.1.1, hq.1.2.2.1.1, hq.1.2.2.2.1, hq.2.1.2.1.1, hq.2.1.2.2.1]) rfl ⟨by rw [HP.out], hq.2.2.drew⟩
set_option maxRecDepth 100000 in
set_option maxHeartbeats 8000000 in
theorem rparse_noT (s : ByteArray) (w : World) (hs : s.size ≤ 9223372036854775807) (P : DayP) (hP : dayP s 0 = P) (hx : P.err = 0) (hT : isB s P.at_ 84 = false) :
    Calls Tryz.prog 8 #[.string s] w (RsPost (parP s) w) := by
  have HR0 : Hid (R3 w s 0 (((w.alloc (.cells #[.int .i64 0, .int .i64 0, .int .i64 0] 24)).alloc (.cells #[.int .i64 0, .int .i64 0] 29)).alloc (.cells #[.string s, .int .i64 0] 56))) := Lib.hid (R3.new w s _ _ _)
  have CD := Lib.hid (fun w0 (h : ScanAt (w.heap.size + 1 + 1) s ((0 : Nat) : Int) w0) => (rday_any (w.heap.size + 1 + 1) s 0 w0 h (Nat.zero_le _) hs).mono fun e w' (h : RdPost _ _ _ _ _ _) => show e = .returned (.tuple #[.int .i64 P.day, .bool P.wide, .agg #[.int .i64 0, .int .i64 P.place]]) ∧ ScanAt (w.heap.size + 1 + 1) s (P.at_ : Int) w' ∧ Only (w.heap.size + 1 + 1) w0 w' from by rw [hP] at h; exact h.ok hx)
  have CT : Hid (∀ w0, ScanAt (w.heap.size + 1 + 1) s (P.at_ : Int) w0 → Calls Tryz.prog 23 #[.pointer (some ⟨w.heap.size + 1 + 1, 0, none⟩), .int .u8 84] w0 fun e w' => e = .returned (.bool false) ∧ ScanAt (w.heap.size + 1 + 1) s ((P.at_ : Nat) : Int) w' ∧ Only (w.heap.size + 1 + 1) w0 w') := Lib.hid fun w0 h => by
      have q := ris_any (w.heap.size + 1 + 1) s P.at_ 84 w0 h hs
      rw [hT, isK_no hT] at q
      exact q
  have hDb := dayP_bd (s := s); rw [hP] at hDb; have hDb2 := hDb hx; clear hDb; obtain ⟨db1, db2⟩ := hDb2
  have HE : Hid (parP s = endP P.day 0 0 0 s.size P.at_) := Lib.hid (by unfold parP parD; rw [hP, if_pos hx, if_neg (by rw [hT]; decide)])
  obtain ⟨PL, hPL⟩ : ∃ x, P.place = x := ⟨_, rfl⟩; obtain ⟨D, hD⟩ : ∃ x, P.day = x := ⟨_, rfl⟩; obtain ⟨K, hK⟩ : ∃ x, P.at_ = x := ⟨_, rfl⟩; rw [hPL, hD, hK] at CD; rw [hD, hK] at HE; rw [hD] at db1 db2; rw [hK] at CT
  clear hP hPL hD hK hx hT
  by_cases hlt : K < s.size
  · have HP : Hid (parP s = ⟨0, 0, 0, 5, ((K : Nat) : Int)⟩) := Lib.hid (by rw [HE.out]; unfold endP; rw [if_pos hlt])
    have hld : decide (K < s.size) = true := decide_eq_true hlt; have hldi : decide (((K : Nat) : Int) < (s.size : Int)) = true := decide_eq_true (by omega)
    have CB : Hid (∀ w0, ScanAt (w.heap.size + 1 + 1) s ((K : Nat) : Int) w0 → Calls Tryz.prog 26 #[.pointer (some ⟨w.heap.size + 1 + 1, 0, none⟩)] w0 fun e w' => e = .returned (.agg #[.int .i64 5, .int .i64 ((K : Nat) : Int)]) ∧ Below w0.heap.size w0 w') := Lib.hid fun w0 h => form_any (w.heap.size + 1 + 1) s (K) w0 h
    go_enter Tryz.func8, Tryz.ntmps8
    go_wp2_with (first
      | (go_at_call 22; (with_reducible refine (CD.out _ HR0.out.scan).mono ?_); rintro e w1 ⟨rfl, hS, hO⟩; have hR := HR0.out.only hS hO; have HR1 := Lib.hid hR; have HX1 := Lib.hid (hR.begin 0 PL 29 24); have hz1 := hR.2.2.1.1; clear hS hO hR)
      | (go_at_call 23; (with_reducible refine (CT.out _ HX1.out.scan).mono ?_); rintro e w2 ⟨rfl, hS, hO⟩; have hR := HX1.out.only hS hO; have HX2 := Lib.hid hR; obtain ⟨z0, ⟨c0, f0⟩, ⟨c1, f1⟩, ⟨c2, f2⟩⟩ := hR.1; obtain ⟨-, ⟨d0, g0⟩, ⟨d1, g1⟩⟩ := hR.2.1; obtain ⟨-, k0, k1, -⟩ := hR.2.2.1; obtain ⟨-, ⟨m0, n0⟩, ⟨m1, n1⟩⟩ := hR.2.2.2.1; obtain ⟨-, ⟨p0, q0⟩, ⟨p1, q1⟩, ⟨p2, q2⟩⟩ := hR.2.2.2.2.1; clear hS hO hR)
      | (go_at_call 26; (with_reducible refine (CB.out _ HX2.out.scan).mono ?_); rintro e wz ⟨rfl, hb⟩; have hR := HX2.out.call hb; have HXZ := Lib.hid hR; obtain ⟨z0, ⟨c0, f0⟩, ⟨c1, f1⟩, ⟨c2, f2⟩⟩ := hR.1; obtain ⟨-, ⟨d0, g0⟩, ⟨d1, g1⟩⟩ := hR.2.1; obtain ⟨-, k0, k1, -⟩ := hR.2.2.1; obtain ⟨-, ⟨m0, n0⟩, ⟨m1, n1⟩⟩ := hR.2.2.2.1; obtain ⟨-, ⟨p0, q0⟩, ⟨p1, q1⟩, ⟨p2, q2⟩⟩ := hR.2.2.2.2.1; clear hb hR))
    have hq := HXZ.out.r3.fin (0) (0) (0) (5) (((K : Nat) : Int))
    exact bodyPost_ret (v := .tuple #[.agg #[.int .i64 (0), .int .i64 (0), .int .i64 (0)], .agg #[.int .i64 (5), .int .i64 (((K : Nat) : Int))]]) (by simp [results, Tryz.results8, go_sem, hq.1.2.1.1, hq.1.2.2.1.1, hq.1.2.2.2.1, hq.2.1.2.1.1, hq.2.1.2.2.1]) rfl ⟨by rw [HP.out], hq.2.2⟩
  · have hld : decide (K < s.size) = false := decide_eq_false hlt; have hldi : decide (((K : Nat) : Int) < (s.size : Int)) = false := decide_eq_false (by omega)
    have CH : Hid (∀ w0, Calls Tryz.prog 27 #[.int .i64 (D)] w0 fun e w' => e = .returned (.tuple #[.int .i64 (rangeR (D)), .int .i64 (joinE (D) (0))]) ∧ w0 = w') := Lib.hid fun w0 => (there_any (D) w0).mono fun e w' h => by rw [joinE_range (by decide) (by decide)]; exact h
    by_cases hj : joinE (D) (0) = 0
    · obtain ⟨jr, j1, j2⟩ := joinR_good hj
      have HP : Hid (parP s = ⟨D * 86400, 0, 0, 0, -1⟩) := Lib.hid (by rw [HE.out]; unfold endP; rw [if_neg hlt]; simp [hj]; rw [jr]; omega)
      rw [hj] at CH; clear hj jr
      have CFI : Hid (∀ w0, Calls Tryz.prog 29 #[] w0 fun e w' => e = .returned (.agg #[.int .i64 0, .int .i64 (-1)]) ∧ Below w0.heap.size w0 w') := Lib.hid fineR_any
      go_enter Tryz.func8, Tryz.ntmps8
      go_wp2_with (first
        | (go_at_call 22; (with_reducible refine (CD.out _ HR0.out.scan).mono ?_); rintro e w1 ⟨rfl, hS, hO⟩; have hR := HR0.out.only hS hO; have HR1 := Lib.hid hR; have HX1 := Lib.hid (hR.begin 0 PL 29 24); have hz1 := hR.2.2.1.1; clear hS hO hR)
        | (go_at_call 23; (with_reducible refine (CT.out _ HX1.out.scan).mono ?_); rintro e w2 ⟨rfl, hS, hO⟩; have hR := HX1.out.only hS hO; have HX2 := Lib.hid hR; obtain ⟨z0, ⟨c0, f0⟩, ⟨c1, f1⟩, ⟨c2, f2⟩⟩ := hR.1; obtain ⟨-, ⟨d0, g0⟩, ⟨d1, g1⟩⟩ := hR.2.1; obtain ⟨-, k0, k1, -⟩ := hR.2.2.1; obtain ⟨-, ⟨m0, n0⟩, ⟨m1, n1⟩⟩ := hR.2.2.2.1; obtain ⟨-, ⟨p0, q0⟩, ⟨p1, q1⟩, ⟨p2, q2⟩⟩ := hR.2.2.2.2.1; clear hS hO hR)
        | (go_at_call 27; (with_reducible refine (CH.out _).mono ?_); rintro e wj ⟨rfl, rfl⟩))
      have hV := HX2.out.put0 (D * 86400)
      obtain ⟨-, ⟨p0, q0⟩, ⟨p1, q1⟩, ⟨p2, q2⟩⟩ := hV.2.2.2.2.1
      have y0 := cell_regrown p0; have y1 := cell_regrown p1; have y2 := cell_regrown p2
      have HV := Lib.hid hV; clear hV
      refine wp_region_below_tail 2 (by kernel_rfl) (by kernel_rfl) ?_
      simp only [List.take_succ_cons, List.take_zero, List.drop_succ_cons, List.drop_zero]
      repeat (go_big_quiet_step ((go_at_call 29; exact Calls.regrown_of (CFI.out _))))
      refine wpQuiet_nil ?_
      intro wz hb
      have hR := HV.out.call hb; have HXZ := Lib.hid hR; obtain ⟨z0, ⟨c0, f0⟩, ⟨c1, f1⟩, ⟨c2, f2⟩⟩ := hR.1; obtain ⟨-, ⟨d0, g0⟩, ⟨d1, g1⟩⟩ := hR.2.1; clear hb hR
      go_wp2_with fail
      have hq := HXZ.out.r3.fin (D * 86400) (0) (0) (0) (-1)
      exact bodyPost_ret (v := .tuple #[.agg #[.int .i64 (D * 86400), .int .i64 (0), .int .i64 (0)], .agg #[.int .i64 (0), .int .i64 (-1)]]) (by simp [results, Tryz.results8, go_sem, hq.1.2.1.1, hq.1.2.2.1.1, hq.1.2.2.2.1, hq.2.1.2.1.1, hq.2.1.2.2.1]) rfl ⟨by rw [HP.out], hq.2.2⟩
    · have HP : Hid (parP s = ⟨0, 0, 0, joinE (D) (0), -1⟩) := Lib.hid (by rw [HE.out]; unfold endP; rw [if_neg hlt]; simp [hj])
      obtain ⟨EE, hEE⟩ : ∃ x, joinE (D) (0) = x := ⟨_, rfl⟩; rw [hEE] at HP CH hj; have hxb : (EE == 0) = false := by simpa using hj
      clear hEE hj
      have CBA : Hid (∀ w0, Calls Tryz.prog 28 #[.int .i64 EE] w0 fun e w' => e = .returned (.agg #[.int .i64 EE, .int .i64 (-1)]) ∧ Below w0.heap.size w0 w') := Lib.hid fun w0 => badR_any _ w0
      go_enter Tryz.func8, Tryz.ntmps8
      go_wp2_with (first
        | (go_at_call 22; (with_reducible refine (CD.out _ HR0.out.scan).mono ?_); rintro e w1 ⟨rfl, hS, hO⟩; have hR := HR0.out.only hS hO; have HR1 := Lib.hid hR; have HX1 := Lib.hid (hR.begin 0 PL 29 24); have hz1 := hR.2.2.1.1; clear hS hO hR)
        | (go_at_call 23; (with_reducible refine (CT.out _ HX1.out.scan).mono ?_); rintro e w2 ⟨rfl, hS, hO⟩; have hR := HX1.out.only hS hO; have HX2 := Lib.hid hR; obtain ⟨z0, ⟨c0, f0⟩, ⟨c1, f1⟩, ⟨c2, f2⟩⟩ := hR.1; obtain ⟨-, ⟨d0, g0⟩, ⟨d1, g1⟩⟩ := hR.2.1; obtain ⟨-, k0, k1, -⟩ := hR.2.2.1; obtain ⟨-, ⟨m0, n0⟩, ⟨m1, n1⟩⟩ := hR.2.2.2.1; obtain ⟨-, ⟨p0, q0⟩, ⟨p1, q1⟩, ⟨p2, q2⟩⟩ := hR.2.2.2.2.1; clear hS hO hR)
        | (go_at_call 27; (with_reducible refine (CH.out _).mono ?_); rintro e wj ⟨rfl, rfl⟩)
        | (go_at_call 28; (with_reducible refine (CBA.out _).mono ?_); rintro e wz ⟨rfl, hb⟩; have hR := HX2.out.call hb; have HXZ := Lib.hid hR; obtain ⟨z0, ⟨c0, f0⟩, ⟨c1, f1⟩, ⟨c2, f2⟩⟩ := hR.1; obtain ⟨-, ⟨d0, g0⟩, ⟨d1, g1⟩⟩ := hR.2.1; obtain ⟨-, k0, k1, -⟩ := hR.2.2.1; obtain ⟨-, ⟨m0, n0⟩, ⟨m1, n1⟩⟩ := hR.2.2.2.1; obtain ⟨-, ⟨p0, q0⟩, ⟨p1, q1⟩, ⟨p2, q2⟩⟩ := hR.2.2.2.2.1; clear hb hR))
      have hq := HXZ.out.r3.fin (0) (0) (0) (EE) (-1)
      exact bodyPost_ret (v := .tuple #[.agg #[.int .i64 (0), .int .i64 (0), .int .i64 (0)], .agg #[.int .i64 (EE), .int .i64 (-1)]]) (by simp [results, Tryz.results8, go_sem, hq.1.2.1.1, hq.1.2.2.1.1, hq.1.2.2.2.1, hq.2.1.2.1.1, hq.2.1.2.2.1]) rfl ⟨by rw [HP.out], hq.2.2⟩
set_option maxRecDepth 100000 in
set_option maxHeartbeats 8000000 in
theorem rparse_clock (s : ByteArray) (w : World) (hs : s.size ≤ 9223372036854775807) (P : DayP) (C : CkP) (hP : dayP s 0 = P) (hC : clockP s P.wide (P.at_ + 1) = C) (hx : P.err = 0) (hT : isB s P.at_ 84 = true) (hc : C.err ≠ 0) :
    Calls Tryz.prog 8 #[.string s] w (RsPost (parP s) w) := by
  have HR0 : Hid (R3 w s 0 (((w.alloc (.cells #[.int .i64 0, .int .i64 0, .int .i64 0] 24)).alloc (.cells #[.int .i64 0, .int .i64 0] 29)).alloc (.cells #[.string s, .int .i64 0] 56))) := Lib.hid (R3.new w s _ _ _)
  have CD := Lib.hid (fun w0 (h : ScanAt (w.heap.size + 1 + 1) s ((0 : Nat) : Int) w0) => (rday_any (w.heap.size + 1 + 1) s 0 w0 h (Nat.zero_le _) hs).mono fun e w' (h : RdPost _ _ _ _ _ _) => show e = .returned (.tuple #[.int .i64 P.day, .bool P.wide, .agg #[.int .i64 0, .int .i64 P.place]]) ∧ ScanAt (w.heap.size + 1 + 1) s (P.at_ : Int) w' ∧ Only (w.heap.size + 1 + 1) w0 w' from by rw [hP] at h; exact h.ok hx)
  have CT : Hid (∀ w0, ScanAt (w.heap.size + 1 + 1) s (P.at_ : Int) w0 → Calls Tryz.prog 23 #[.pointer (some ⟨w.heap.size + 1 + 1, 0, none⟩), .int .u8 84] w0 fun e w' => e = .returned (.bool true) ∧ ScanAt (w.heap.size + 1 + 1) s ((P.at_ + 1 : Nat) : Int) w' ∧ Only (w.heap.size + 1 + 1) w0 w') := Lib.hid fun w0 h => by
      have q := ris_any (w.heap.size + 1 + 1) s P.at_ 84 w0 h hs
      rw [hT, isK_yes hT] at q
      exact q
  have hDb := dayP_bd (s := s); rw [hP] at hDb; have hDb2 := hDb hx; clear hDb; obtain ⟨db1, db2⟩ := hDb2
  have HP : Hid (parP s = ⟨0, 0, 0, C.err, C.place⟩) := Lib.hid (by unfold parP parD; rw [hP, if_pos hx, if_pos hT, hC]; unfold parC; rw [if_neg hc])
  have CC := Lib.hid (fun w0 (h : ScanAt (w.heap.size + 1 + 1) s ((P.at_ + 1 : Nat) : Int) w0) => (rclock_any (w.heap.size + 1 + 1) s (P.at_ + 1) P.wide w0 h (isB_lt hT) hs).mono fun e w' (h : RcPost _ _ _ _ _ _) => show ∃ D, e = .returned (.tuple #[.int .i64 D, .agg #[.int .i64 C.err, .int .i64 C.place]]) ∧ ScanAt (w.heap.size + 1 + 1) s (C.at_ : Int) w' ∧ Only (w.heap.size + 1 + 1) w0 w' from by obtain ⟨D, h1, _, h3, h4⟩ := h; rw [hC] at h1 h3; exact ⟨D, h1, h3, h4⟩)
  obtain ⟨EE, hEE⟩ : ∃ x, C.err = x := ⟨_, rfl⟩; obtain ⟨EP, hEP⟩ : ∃ x, C.place = x := ⟨_, rfl⟩; rw [hEE] at CC HP hc; rw [hEP] at CC HP
  obtain ⟨PL, hPL⟩ : ∃ x, P.place = x := ⟨_, rfl⟩; rw [hPL] at CD
  have hxb : (EE == 0) = false := by simpa using hc
  clear hP hC hEE hEP hPL hx hc hT
  go_enter Tryz.func8, Tryz.ntmps8
  go_wp2_with (first
    | (go_at_call 22; (with_reducible refine (CD.out _ HR0.out.scan).mono ?_); rintro e w1 ⟨rfl, hS, hO⟩; have hR := HR0.out.only hS hO; have HR1 := Lib.hid hR; have HX1 := Lib.hid (hR.begin 0 PL 29 24); have hz1 := hR.2.2.1.1; clear hS hO hR)
    | (go_at_call 23; (with_reducible refine (CT.out _ HX1.out.scan).mono ?_); rintro e w2 ⟨rfl, hS, hO⟩; have hR := HX1.out.only hS hO; have HX2 := Lib.hid hR; obtain ⟨z0, ⟨c0, f0⟩, ⟨c1, f1⟩, ⟨c2, f2⟩⟩ := hR.1; obtain ⟨-, ⟨d0, g0⟩, ⟨d1, g1⟩⟩ := hR.2.1; obtain ⟨-, k0, k1, -⟩ := hR.2.2.1; obtain ⟨-, ⟨m0, n0⟩, ⟨m1, n1⟩⟩ := hR.2.2.2.1; obtain ⟨-, ⟨p0, q0⟩, ⟨p1, q1⟩, ⟨p2, q2⟩⟩ := hR.2.2.2.2.1; clear hS hO hR)
    | (go_at_call 24; (with_reducible refine (CC.out _ HX2.out.scan).mono ?_); rintro e w3 ⟨K, rfl, hS, hO⟩; have hR := HX2.out.only hS hO; have HX3 := Lib.hid (hR.putb EE EP); obtain ⟨z0, ⟨c0, f0⟩, ⟨c1, f1⟩, ⟨c2, f2⟩⟩ := hR.1; obtain ⟨-, ⟨d0, g0⟩, ⟨d1, g1⟩⟩ := hR.2.1; obtain ⟨-, k0, k1, -⟩ := hR.2.2.1; obtain ⟨-, ⟨m0, n0⟩, ⟨m1, n1⟩⟩ := hR.2.2.2.1; obtain ⟨-, ⟨p0, q0⟩, ⟨p1, q1⟩, ⟨p2, q2⟩⟩ := hR.2.2.2.2.1; clear hS hO hR))
  go_region_with fail
  all_goals
    go_wp2_with fail
    have hq := HX3.out.r3.fin (0) (0) (0) (EE) (EP)
    exact bodyPost_ret (v := .tuple #[.agg #[.int .i64 (0), .int .i64 (0), .int .i64 (0)], .agg #[.int .i64 (EE), .int .i64 (EP)]]) (by simp [results, Tryz.results8, go_sem, hq.1.2.1.1, hq.1.2.2.1.1, hq.1.2.2.2.1, hq.2.1.2.1.1, hq.2.1.2.2.1]) rfl ⟨by rw [HP.out], hq.2.2.drew⟩
set_option maxRecDepth 100000 in
set_option maxHeartbeats 8000000 in
theorem rparse_zone (s : ByteArray) (w : World) (hs : s.size ≤ 9223372036854775807) (P : DayP) (C : CkP) (Z : ZnP) (hP : dayP s 0 = P) (hC : clockP s P.wide (P.at_ + 1) = C) (hZ : zoneP s P.wide C.at_ = Z) (hx : P.err = 0) (hT : isB s P.at_ 84 = true) (hc : C.err = 0) (hz : Z.err ≠ 0) :
    Calls Tryz.prog 8 #[.string s] w (RsPost (parP s) w) := by
  have HR0 : Hid (R3 w s 0 (((w.alloc (.cells #[.int .i64 0, .int .i64 0, .int .i64 0] 24)).alloc (.cells #[.int .i64 0, .int .i64 0] 29)).alloc (.cells #[.string s, .int .i64 0] 56))) := Lib.hid (R3.new w s _ _ _)
  have CD := Lib.hid (fun w0 (h : ScanAt (w.heap.size + 1 + 1) s ((0 : Nat) : Int) w0) => (rday_any (w.heap.size + 1 + 1) s 0 w0 h (Nat.zero_le _) hs).mono fun e w' (h : RdPost _ _ _ _ _ _) => show e = .returned (.tuple #[.int .i64 P.day, .bool P.wide, .agg #[.int .i64 0, .int .i64 P.place]]) ∧ ScanAt (w.heap.size + 1 + 1) s (P.at_ : Int) w' ∧ Only (w.heap.size + 1 + 1) w0 w' from by rw [hP] at h; exact h.ok hx)
  have CT : Hid (∀ w0, ScanAt (w.heap.size + 1 + 1) s (P.at_ : Int) w0 → Calls Tryz.prog 23 #[.pointer (some ⟨w.heap.size + 1 + 1, 0, none⟩), .int .u8 84] w0 fun e w' => e = .returned (.bool true) ∧ ScanAt (w.heap.size + 1 + 1) s ((P.at_ + 1 : Nat) : Int) w' ∧ Only (w.heap.size + 1 + 1) w0 w') := Lib.hid fun w0 h => by
      have q := ris_any (w.heap.size + 1 + 1) s P.at_ 84 w0 h hs
      rw [hT, isK_yes hT] at q
      exact q
  have hDb := dayP_bd (s := s); rw [hP] at hDb; have hDb2 := hDb hx; clear hDb; obtain ⟨db1, db2⟩ := hDb2
  have CC := Lib.hid (fun w0 (h : ScanAt (w.heap.size + 1 + 1) s ((P.at_ + 1 : Nat) : Int) w0) => (rclock_any (w.heap.size + 1 + 1) s (P.at_ + 1) P.wide w0 h (isB_lt hT) hs).mono fun e w' (h : RcPost _ _ _ _ _ _) => show e = .returned (.tuple #[.int .i64 C.sec, .agg #[.int .i64 0, .int .i64 C.place]]) ∧ ScanAt (w.heap.size + 1 + 1) s (C.at_ : Int) w' ∧ Only (w.heap.size + 1 + 1) w0 w' from by rw [hC] at h; exact h.ok hc)
  have HP : Hid (parP s = ⟨0, 0, 0, Z.err, Z.place⟩) := Lib.hid (by unfold parP parD; rw [hP, if_pos hx, if_pos hT, hC]; unfold parC; rw [if_pos hc, hZ, if_neg hz])
  have CZ := Lib.hid (fun w0 (h : ScanAt (w.heap.size + 1 + 1) s (C.at_ : Int) w0) => (rzone_any (w.heap.size + 1 + 1) s C.at_ P.wide w0 h hs).mono fun e w' (h : RzPost _ _ _ _ _ _) => show ∃ K O, e = .returned (.tuple #[.int .i64 K, .int .i64 O, .agg #[.int .i64 Z.err, .int .i64 Z.place]]) ∧ ScanAt (w.heap.size + 1 + 1) s (Z.at_ : Int) w' ∧ Only (w.heap.size + 1 + 1) w0 w' from by obtain ⟨K, O, h1, _, h3, h4⟩ := h; rw [hZ] at h1 h3; exact ⟨K, O, h1, h3, h4⟩)
  obtain ⟨EE, hEE⟩ : ∃ x, Z.err = x := ⟨_, rfl⟩; obtain ⟨EP, hEP⟩ : ∃ x, Z.place = x := ⟨_, rfl⟩; rw [hEE] at CZ HP hz; rw [hEP] at CZ HP
  obtain ⟨PL, hPL⟩ : ∃ x, P.place = x := ⟨_, rfl⟩; rw [hPL] at CD; obtain ⟨CP, hCP⟩ : ∃ x, C.place = x := ⟨_, rfl⟩; rw [hCP] at CC
  have hxb : (EE == 0) = false := by simpa using hz
  clear hP hC hZ hEE hEP hPL hCP hx hc hT hz
  go_enter Tryz.func8, Tryz.ntmps8
  go_wp2_with (first
    | (go_at_call 22; (with_reducible refine (CD.out _ HR0.out.scan).mono ?_); rintro e w1 ⟨rfl, hS, hO⟩; have hR := HR0.out.only hS hO; have HR1 := Lib.hid hR; have HX1 := Lib.hid (hR.begin 0 PL 29 24); have hz1 := hR.2.2.1.1; clear hS hO hR)
    | (go_at_call 23; (with_reducible refine (CT.out _ HX1.out.scan).mono ?_); rintro e w2 ⟨rfl, hS, hO⟩; have hR := HX1.out.only hS hO; have HX2 := Lib.hid hR; obtain ⟨z0, ⟨c0, f0⟩, ⟨c1, f1⟩, ⟨c2, f2⟩⟩ := hR.1; obtain ⟨-, ⟨d0, g0⟩, ⟨d1, g1⟩⟩ := hR.2.1; obtain ⟨-, k0, k1, -⟩ := hR.2.2.1; obtain ⟨-, ⟨m0, n0⟩, ⟨m1, n1⟩⟩ := hR.2.2.2.1; obtain ⟨-, ⟨p0, q0⟩, ⟨p1, q1⟩, ⟨p2, q2⟩⟩ := hR.2.2.2.2.1; clear hS hO hR)
    | (go_at_call 24; (with_reducible refine (CC.out _ HX2.out.scan).mono ?_); rintro e w3 ⟨rfl, hS, hO⟩; have hR := HX2.out.only hS hO; have HX3 := Lib.hid (hR.putb 0 CP); obtain ⟨z0, ⟨c0, f0⟩, ⟨c1, f1⟩, ⟨c2, f2⟩⟩ := hR.1; obtain ⟨-, ⟨d0, g0⟩, ⟨d1, g1⟩⟩ := hR.2.1; obtain ⟨-, k0, k1, -⟩ := hR.2.2.1; obtain ⟨-, ⟨m0, n0⟩, ⟨m1, n1⟩⟩ := hR.2.2.2.1; obtain ⟨-, ⟨p0, q0⟩, ⟨p1, q1⟩, ⟨p2, q2⟩⟩ := hR.2.2.2.2.1; clear hS hO hR)
    | (go_at_call 25; (with_reducible refine (CZ.out _ HX3.out.scan).mono ?_); rintro e w4 ⟨K, O, rfl, hS, hO⟩; have hR := HX3.out.only hS hO; have HX4 := Lib.hid (((hR.put1 K).put2 O).putb EE EP); obtain ⟨z0, ⟨c0, f0⟩, ⟨c1, f1⟩, ⟨c2, f2⟩⟩ := hR.1; obtain ⟨-, ⟨d0, g0⟩, ⟨d1, g1⟩⟩ := hR.2.1; obtain ⟨-, k0, k1, -⟩ := hR.2.2.1; obtain ⟨-, ⟨m0, n0⟩, ⟨m1, n1⟩⟩ := hR.2.2.2.1; obtain ⟨-, ⟨p0, q0⟩, ⟨p1, q1⟩, ⟨p2, q2⟩⟩ := hR.2.2.2.2.1; clear hS hO hR))
  go_region_with fail
  all_goals
    go_wp2_with fail
    have hq := HX4.out.r3.fin (0) (0) (0) (EE) (EP)
    exact bodyPost_ret (v := .tuple #[.agg #[.int .i64 (0), .int .i64 (0), .int .i64 (0)], .agg #[.int .i64 (EE), .int .i64 (EP)]]) (by simp [results, Tryz.results8, go_sem, hq.1.2.1.1, hq.1.2.2.1.1, hq.1.2.2.2.1, hq.2.1.2.1.1, hq.2.1.2.2.1]) rfl ⟨by rw [HP.out], hq.2.2.drew⟩
set_option maxRecDepth 100000 in
set_option maxHeartbeats 8000000 in
theorem rparse_Tfull (s : ByteArray) (w : World) (hs : s.size ≤ 9223372036854775807) (P : DayP) (C : CkP) (Z : ZnP) (hP : dayP s 0 = P) (hC : clockP s P.wide (P.at_ + 1) = C) (hZ : zoneP s P.wide C.at_ = Z) (hx : P.err = 0) (hT : isB s P.at_ 84 = true) (hc : C.err = 0) (hz : Z.err = 0) (hfull : C.sec = 86400) :
    Calls Tryz.prog 8 #[.string s] w (RsPost (parP s) w) := by
  have HR0 : Hid (R3 w s 0 (((w.alloc (.cells #[.int .i64 0, .int .i64 0, .int .i64 0] 24)).alloc (.cells #[.int .i64 0, .int .i64 0] 29)).alloc (.cells #[.string s, .int .i64 0] 56))) := Lib.hid (R3.new w s _ _ _)
  have CD := Lib.hid (fun w0 (h : ScanAt (w.heap.size + 1 + 1) s ((0 : Nat) : Int) w0) => (rday_any (w.heap.size + 1 + 1) s 0 w0 h (Nat.zero_le _) hs).mono fun e w' (h : RdPost _ _ _ _ _ _) => show e = .returned (.tuple #[.int .i64 P.day, .bool P.wide, .agg #[.int .i64 0, .int .i64 P.place]]) ∧ ScanAt (w.heap.size + 1 + 1) s (P.at_ : Int) w' ∧ Only (w.heap.size + 1 + 1) w0 w' from by rw [hP] at h; exact h.ok hx)
  have CT : Hid (∀ w0, ScanAt (w.heap.size + 1 + 1) s (P.at_ : Int) w0 → Calls Tryz.prog 23 #[.pointer (some ⟨w.heap.size + 1 + 1, 0, none⟩), .int .u8 84] w0 fun e w' => e = .returned (.bool true) ∧ ScanAt (w.heap.size + 1 + 1) s ((P.at_ + 1 : Nat) : Int) w' ∧ Only (w.heap.size + 1 + 1) w0 w') := Lib.hid fun w0 h => by
      have q := ris_any (w.heap.size + 1 + 1) s P.at_ 84 w0 h hs
      rw [hT, isK_yes hT] at q
      exact q
  have hDb := dayP_bd (s := s); rw [hP] at hDb; have hDb2 := hDb hx; clear hDb; obtain ⟨db1, db2⟩ := hDb2
  have CC := Lib.hid (fun w0 (h : ScanAt (w.heap.size + 1 + 1) s ((P.at_ + 1 : Nat) : Int) w0) => (rclock_any (w.heap.size + 1 + 1) s (P.at_ + 1) P.wide w0 h (isB_lt hT) hs).mono fun e w' (h : RcPost _ _ _ _ _ _) => show e = .returned (.tuple #[.int .i64 C.sec, .agg #[.int .i64 0, .int .i64 C.place]]) ∧ ScanAt (w.heap.size + 1 + 1) s (C.at_ : Int) w' ∧ Only (w.heap.size + 1 + 1) w0 w' from by rw [hC] at h; exact h.ok hc)
  have CZ := Lib.hid (fun w0 (h : ScanAt (w.heap.size + 1 + 1) s (C.at_ : Int) w0) => (rzone_any (w.heap.size + 1 + 1) s C.at_ P.wide w0 h hs).mono fun e w' (h : RzPost _ _ _ _ _ _) => show e = .returned (.tuple #[.int .i64 Z.kind, .int .i64 Z.off, .agg #[.int .i64 0, .int .i64 Z.place]]) ∧ ScanAt (w.heap.size + 1 + 1) s (Z.at_ : Int) w' ∧ Only (w.heap.size + 1 + 1) w0 w' from by rw [hZ] at h; exact h.ok hz)
  have HE : Hid (parP s = endP P.day C.sec Z.kind Z.off s.size Z.at_) := Lib.hid (by unfold parP parD; rw [hP, if_pos hx, if_pos hT, hC]; unfold parC; rw [if_pos hc, hZ, if_pos hz])
  have hsec := clockP_sec (s := s) (wd := P.wide) (k := P.at_ + 1); rw [hC] at hsec; have hsec2 := hsec hc; clear hsec
  obtain ⟨PL, hPL⟩ : ∃ x, P.place = x := ⟨_, rfl⟩
  obtain ⟨CP, hCP⟩ : ∃ x, C.place = x := ⟨_, rfl⟩
  obtain ⟨ZP, hZP⟩ : ∃ x, Z.place = x := ⟨_, rfl⟩
  obtain ⟨D, hD⟩ : ∃ x, P.day = x := ⟨_, rfl⟩
  obtain ⟨SC, hSC⟩ : ∃ x, C.sec = x := ⟨_, rfl⟩
  obtain ⟨ZK, hZK⟩ : ∃ x, Z.kind = x := ⟨_, rfl⟩
  obtain ⟨ZO, hZO⟩ : ∃ x, Z.off = x := ⟨_, rfl⟩
  obtain ⟨K, hK⟩ : ∃ x, Z.at_ = x := ⟨_, rfl⟩
  rw [hPL, hD] at CD; rw [hD] at db1 db2; rw [hSC, hCP] at CC; rw [hZK, hZO, hZP, hK] at CZ; rw [hD, hSC, hZK, hZO, hK] at HE; rw [hSC] at hfull hsec2
  clear hP hC hZ hx hT hc hz hPL hCP hZP hD hSC hZK hZO hK
  subst hfull; clear hsec2
  by_cases hlt : K < s.size
  · have HP : Hid (parP s = ⟨0, 0, 0, 5, ((K : Nat) : Int)⟩) := Lib.hid (by rw [HE.out]; unfold endP; rw [if_pos hlt])
    have hld : decide (K < s.size) = true := decide_eq_true hlt; have hldi : decide (((K : Nat) : Int) < (s.size : Int)) = true := decide_eq_true (by omega)
    have CB : Hid (∀ w0, ScanAt (w.heap.size + 1 + 1) s ((K : Nat) : Int) w0 → Calls Tryz.prog 26 #[.pointer (some ⟨w.heap.size + 1 + 1, 0, none⟩)] w0 fun e w' => e = .returned (.agg #[.int .i64 5, .int .i64 ((K : Nat) : Int)]) ∧ Below w0.heap.size w0 w') := Lib.hid fun w0 h => form_any (w.heap.size + 1 + 1) s (K) w0 h
    go_enter Tryz.func8, Tryz.ntmps8
    go_wp2_with (first
      | (go_at_call 22; (with_reducible refine (CD.out _ HR0.out.scan).mono ?_); rintro e w1 ⟨rfl, hS, hO⟩; have hR := HR0.out.only hS hO; have HR1 := Lib.hid hR; have HX1 := Lib.hid (hR.begin 0 PL 29 24); have hz1 := hR.2.2.1.1; clear hS hO hR)
      | (go_at_call 23; (with_reducible refine (CT.out _ HX1.out.scan).mono ?_); rintro e w2 ⟨rfl, hS, hO⟩; have hR := HX1.out.only hS hO; have HX2 := Lib.hid hR; obtain ⟨z0, ⟨c0, f0⟩, ⟨c1, f1⟩, ⟨c2, f2⟩⟩ := hR.1; obtain ⟨-, ⟨d0, g0⟩, ⟨d1, g1⟩⟩ := hR.2.1; obtain ⟨-, k0, k1, -⟩ := hR.2.2.1; obtain ⟨-, ⟨m0, n0⟩, ⟨m1, n1⟩⟩ := hR.2.2.2.1; obtain ⟨-, ⟨p0, q0⟩, ⟨p1, q1⟩, ⟨p2, q2⟩⟩ := hR.2.2.2.2.1; clear hS hO hR)
      | (go_at_call 24; (with_reducible refine (CC.out _ HX2.out.scan).mono ?_); rintro e w3 ⟨rfl, hS, hO⟩; have hR := HX2.out.only hS hO; have HX3 := Lib.hid (hR.putb 0 CP); obtain ⟨z0, ⟨c0, f0⟩, ⟨c1, f1⟩, ⟨c2, f2⟩⟩ := hR.1; obtain ⟨-, ⟨d0, g0⟩, ⟨d1, g1⟩⟩ := hR.2.1; obtain ⟨-, k0, k1, -⟩ := hR.2.2.1; obtain ⟨-, ⟨m0, n0⟩, ⟨m1, n1⟩⟩ := hR.2.2.2.1; obtain ⟨-, ⟨p0, q0⟩, ⟨p1, q1⟩, ⟨p2, q2⟩⟩ := hR.2.2.2.2.1; clear hS hO hR)
      | (go_at_call 25; (with_reducible refine (CZ.out _ HX3.out.scan).mono ?_); rintro e w4 ⟨rfl, hS, hO⟩; have hR := HX3.out.only hS hO; have hR4 := (((hR.put1 ZK).put2 ZO).putb 0 ZP); have HX4 := Lib.hid hR4; obtain ⟨z0, ⟨c0, f0⟩, ⟨c1, f1⟩, ⟨c2, f2⟩⟩ := hR.1; obtain ⟨-, ⟨d0, g0⟩, ⟨d1, g1⟩⟩ := hR.2.1; obtain ⟨-, k0, k1, -⟩ := hR.2.2.1; obtain ⟨-, ⟨m0, n0⟩, ⟨m1, n1⟩⟩ := hR.2.2.2.1; obtain ⟨-, ⟨p0, q0⟩, ⟨p1, q1⟩, ⟨p2, q2⟩⟩ := hR.2.2.2.2.1; clear hS hO hR hR4)
      | (go_at_call 26; (with_reducible refine (CB.out _ HX4.out.scan).mono ?_); rintro e wz ⟨rfl, hb⟩; have hR := HX4.out.call hb; have HXZ := Lib.hid hR; obtain ⟨z0, ⟨c0, f0⟩, ⟨c1, f1⟩, ⟨c2, f2⟩⟩ := hR.1; obtain ⟨-, ⟨d0, g0⟩, ⟨d1, g1⟩⟩ := hR.2.1; obtain ⟨-, k0, k1, -⟩ := hR.2.2.1; obtain ⟨-, ⟨m0, n0⟩, ⟨m1, n1⟩⟩ := hR.2.2.2.1; obtain ⟨-, ⟨p0, q0⟩, ⟨p1, q1⟩, ⟨p2, q2⟩⟩ := hR.2.2.2.2.1; clear hb hR))
    have hq := HXZ.out.r3.fin (0) (0) (0) (5) (((K : Nat) : Int))
    exact bodyPost_ret (v := .tuple #[.agg #[.int .i64 (0), .int .i64 (0), .int .i64 (0)], .agg #[.int .i64 (5), .int .i64 (((K : Nat) : Int))]]) (by simp [results, Tryz.results8, go_sem, hq.1.2.1.1, hq.1.2.2.1.1, hq.1.2.2.2.1, hq.2.1.2.1.1, hq.2.1.2.2.1]) rfl ⟨by rw [HP.out], hq.2.2⟩
  · have hld : decide (K < s.size) = false := decide_eq_false hlt; have hldi : decide (((K : Nat) : Int) < (s.size : Int)) = false := decide_eq_false (by omega)
    have CH : Hid (∀ w0, Calls Tryz.prog 27 #[.int .i64 (D + 1)] w0 fun e w' => e = .returned (.tuple #[.int .i64 (rangeR (D + 1)), .int .i64 (joinE (D + 1) (0))]) ∧ w0 = w') := Lib.hid fun w0 => (there_any (D + 1) w0).mono fun e w' h => by rw [joinE_range (by decide) (by decide)]; exact h
    by_cases hj : joinE (D + 1) (0) = 0
    · obtain ⟨jr, j1, j2⟩ := joinR_good hj
      have HP : Hid (parP s = ⟨D * 86400 + 86400, ZK, ZO, 0, -1⟩) := Lib.hid (by rw [HE.out]; unfold endP; rw [if_neg hlt]; simp [hj]; rw [jr]; omega)
      rw [hj] at CH; clear hj jr
      have CFI : Hid (∀ w0, Calls Tryz.prog 29 #[] w0 fun e w' => e = .returned (.agg #[.int .i64 0, .int .i64 (-1)]) ∧ Below w0.heap.size w0 w') := Lib.hid fineR_any
      go_enter Tryz.func8, Tryz.ntmps8
      go_wp2_with (first
        | (go_at_call 22; (with_reducible refine (CD.out _ HR0.out.scan).mono ?_); rintro e w1 ⟨rfl, hS, hO⟩; have hR := HR0.out.only hS hO; have HR1 := Lib.hid hR; have HX1 := Lib.hid (hR.begin 0 PL 29 24); have hz1 := hR.2.2.1.1; clear hS hO hR)
        | (go_at_call 23; (with_reducible refine (CT.out _ HX1.out.scan).mono ?_); rintro e w2 ⟨rfl, hS, hO⟩; have hR := HX1.out.only hS hO; have HX2 := Lib.hid hR; obtain ⟨z0, ⟨c0, f0⟩, ⟨c1, f1⟩, ⟨c2, f2⟩⟩ := hR.1; obtain ⟨-, ⟨d0, g0⟩, ⟨d1, g1⟩⟩ := hR.2.1; obtain ⟨-, k0, k1, -⟩ := hR.2.2.1; obtain ⟨-, ⟨m0, n0⟩, ⟨m1, n1⟩⟩ := hR.2.2.2.1; obtain ⟨-, ⟨p0, q0⟩, ⟨p1, q1⟩, ⟨p2, q2⟩⟩ := hR.2.2.2.2.1; clear hS hO hR)
        | (go_at_call 24; (with_reducible refine (CC.out _ HX2.out.scan).mono ?_); rintro e w3 ⟨rfl, hS, hO⟩; have hR := HX2.out.only hS hO; have HX3 := Lib.hid (hR.putb 0 CP); obtain ⟨z0, ⟨c0, f0⟩, ⟨c1, f1⟩, ⟨c2, f2⟩⟩ := hR.1; obtain ⟨-, ⟨d0, g0⟩, ⟨d1, g1⟩⟩ := hR.2.1; obtain ⟨-, k0, k1, -⟩ := hR.2.2.1; obtain ⟨-, ⟨m0, n0⟩, ⟨m1, n1⟩⟩ := hR.2.2.2.1; obtain ⟨-, ⟨p0, q0⟩, ⟨p1, q1⟩, ⟨p2, q2⟩⟩ := hR.2.2.2.2.1; clear hS hO hR)
        | (go_at_call 25; (with_reducible refine (CZ.out _ HX3.out.scan).mono ?_); rintro e w4 ⟨rfl, hS, hO⟩; have hR := HX3.out.only hS hO; have hR4 := (((hR.put1 ZK).put2 ZO).putb 0 ZP); have HX4 := Lib.hid hR4; obtain ⟨z0, ⟨c0, f0⟩, ⟨c1, f1⟩, ⟨c2, f2⟩⟩ := hR.1; obtain ⟨-, ⟨d0, g0⟩, ⟨d1, g1⟩⟩ := hR.2.1; obtain ⟨-, k0, k1, -⟩ := hR.2.2.1; obtain ⟨-, ⟨m0, n0⟩, ⟨m1, n1⟩⟩ := hR.2.2.2.1; obtain ⟨-, ⟨p0, q0⟩, ⟨p1, q1⟩, ⟨p2, q2⟩⟩ := hR.2.2.2.2.1; clear hS hO hR hR4)
        | (go_at_call 27; (with_reducible refine (CH.out _).mono ?_); rintro e wj ⟨rfl, rfl⟩))
      have hV := HX4.out.put0 (D * 86400 + 86400)
      obtain ⟨-, ⟨p0, q0⟩, ⟨p1, q1⟩, ⟨p2, q2⟩⟩ := hV.2.2.2.2.1
      have y0 := cell_regrown p0; have y1 := cell_regrown p1; have y2 := cell_regrown p2
      have HV := Lib.hid hV; clear hV
      refine wp_region_below_tail 2 (by kernel_rfl) (by kernel_rfl) ?_
      simp only [List.take_succ_cons, List.take_zero, List.drop_succ_cons, List.drop_zero]
      repeat (go_big_quiet_step ((go_at_call 29; exact Calls.regrown_of (CFI.out _))))
      refine wpQuiet_nil ?_
      intro wz hb
      have hR := HV.out.call hb; have HXZ := Lib.hid hR; obtain ⟨z0, ⟨c0, f0⟩, ⟨c1, f1⟩, ⟨c2, f2⟩⟩ := hR.1; obtain ⟨-, ⟨d0, g0⟩, ⟨d1, g1⟩⟩ := hR.2.1; clear hb hR
      go_wp2_with fail
      have hq := HXZ.out.r3.fin (D * 86400 + 86400) (ZK) (ZO) (0) (-1)
      exact bodyPost_ret (v := .tuple #[.agg #[.int .i64 (D * 86400 + 86400), .int .i64 (ZK), .int .i64 (ZO)], .agg #[.int .i64 (0), .int .i64 (-1)]]) (by simp [results, Tryz.results8, go_sem, hq.1.2.1.1, hq.1.2.2.1.1, hq.1.2.2.2.1, hq.2.1.2.1.1, hq.2.1.2.2.1]) rfl ⟨by rw [HP.out], hq.2.2⟩
    · have HP : Hid (parP s = ⟨0, 0, 0, joinE (D + 1) (0), -1⟩) := Lib.hid (by rw [HE.out]; unfold endP; rw [if_neg hlt]; simp [hj])
      obtain ⟨EE, hEE⟩ : ∃ x, joinE (D + 1) (0) = x := ⟨_, rfl⟩; rw [hEE] at HP CH hj; have hxb : (EE == 0) = false := by simpa using hj
      clear hEE hj
      have CBA : Hid (∀ w0, Calls Tryz.prog 28 #[.int .i64 EE] w0 fun e w' => e = .returned (.agg #[.int .i64 EE, .int .i64 (-1)]) ∧ Below w0.heap.size w0 w') := Lib.hid fun w0 => badR_any _ w0
      go_enter Tryz.func8, Tryz.ntmps8
      go_wp2_with (first
        | (go_at_call 22; (with_reducible refine (CD.out _ HR0.out.scan).mono ?_); rintro e w1 ⟨rfl, hS, hO⟩; have hR := HR0.out.only hS hO; have HR1 := Lib.hid hR; have HX1 := Lib.hid (hR.begin 0 PL 29 24); have hz1 := hR.2.2.1.1; clear hS hO hR)
        | (go_at_call 23; (with_reducible refine (CT.out _ HX1.out.scan).mono ?_); rintro e w2 ⟨rfl, hS, hO⟩; have hR := HX1.out.only hS hO; have HX2 := Lib.hid hR; obtain ⟨z0, ⟨c0, f0⟩, ⟨c1, f1⟩, ⟨c2, f2⟩⟩ := hR.1; obtain ⟨-, ⟨d0, g0⟩, ⟨d1, g1⟩⟩ := hR.2.1; obtain ⟨-, k0, k1, -⟩ := hR.2.2.1; obtain ⟨-, ⟨m0, n0⟩, ⟨m1, n1⟩⟩ := hR.2.2.2.1; obtain ⟨-, ⟨p0, q0⟩, ⟨p1, q1⟩, ⟨p2, q2⟩⟩ := hR.2.2.2.2.1; clear hS hO hR)
        | (go_at_call 24; (with_reducible refine (CC.out _ HX2.out.scan).mono ?_); rintro e w3 ⟨rfl, hS, hO⟩; have hR := HX2.out.only hS hO; have HX3 := Lib.hid (hR.putb 0 CP); obtain ⟨z0, ⟨c0, f0⟩, ⟨c1, f1⟩, ⟨c2, f2⟩⟩ := hR.1; obtain ⟨-, ⟨d0, g0⟩, ⟨d1, g1⟩⟩ := hR.2.1; obtain ⟨-, k0, k1, -⟩ := hR.2.2.1; obtain ⟨-, ⟨m0, n0⟩, ⟨m1, n1⟩⟩ := hR.2.2.2.1; obtain ⟨-, ⟨p0, q0⟩, ⟨p1, q1⟩, ⟨p2, q2⟩⟩ := hR.2.2.2.2.1; clear hS hO hR)
        | (go_at_call 25; (with_reducible refine (CZ.out _ HX3.out.scan).mono ?_); rintro e w4 ⟨rfl, hS, hO⟩; have hR := HX3.out.only hS hO; have hR4 := (((hR.put1 ZK).put2 ZO).putb 0 ZP); have HX4 := Lib.hid hR4; obtain ⟨z0, ⟨c0, f0⟩, ⟨c1, f1⟩, ⟨c2, f2⟩⟩ := hR.1; obtain ⟨-, ⟨d0, g0⟩, ⟨d1, g1⟩⟩ := hR.2.1; obtain ⟨-, k0, k1, -⟩ := hR.2.2.1; obtain ⟨-, ⟨m0, n0⟩, ⟨m1, n1⟩⟩ := hR.2.2.2.1; obtain ⟨-, ⟨p0, q0⟩, ⟨p1, q1⟩, ⟨p2, q2⟩⟩ := hR.2.2.2.2.1; clear hS hO hR hR4)
        | (go_at_call 27; (with_reducible refine (CH.out _).mono ?_); rintro e wj ⟨rfl, rfl⟩)
        | (go_at_call 28; (with_reducible refine (CBA.out _).mono ?_); rintro e wz ⟨rfl, hb⟩; have hR := HX4.out.call hb; have HXZ := Lib.hid hR; obtain ⟨z0, ⟨c0, f0⟩, ⟨c1, f1⟩, ⟨c2, f2⟩⟩ := hR.1; obtain ⟨-, ⟨d0, g0⟩, ⟨d1, g1⟩⟩ := hR.2.1; obtain ⟨-, k0, k1, -⟩ := hR.2.2.1; obtain ⟨-, ⟨m0, n0⟩, ⟨m1, n1⟩⟩ := hR.2.2.2.1; obtain ⟨-, ⟨p0, q0⟩, ⟨p1, q1⟩, ⟨p2, q2⟩⟩ := hR.2.2.2.2.1; clear hb hR))
      have hq := HXZ.out.r3.fin (0) (0) (0) (EE) (-1)
      exact bodyPost_ret (v := .tuple #[.agg #[.int .i64 (0), .int .i64 (0), .int .i64 (0)], .agg #[.int .i64 (EE), .int .i64 (-1)]]) (by simp [results, Tryz.results8, go_sem, hq.1.2.1.1, hq.1.2.2.1.1, hq.1.2.2.2.1, hq.2.1.2.1.1, hq.2.1.2.2.1]) rfl ⟨by rw [HP.out], hq.2.2⟩
set_option maxRecDepth 100000 in
set_option maxHeartbeats 8000000 in
theorem rparse_Tpart (s : ByteArray) (w : World) (hs : s.size ≤ 9223372036854775807) (P : DayP) (C : CkP) (Z : ZnP) (hP : dayP s 0 = P) (hC : clockP s P.wide (P.at_ + 1) = C) (hZ : zoneP s P.wide C.at_ = Z) (hx : P.err = 0) (hT : isB s P.at_ 84 = true) (hc : C.err = 0) (hz : Z.err = 0) (hfull : C.sec ≠ 86400) :
    Calls Tryz.prog 8 #[.string s] w (RsPost (parP s) w) := by
  have HR0 : Hid (R3 w s 0 (((w.alloc (.cells #[.int .i64 0, .int .i64 0, .int .i64 0] 24)).alloc (.cells #[.int .i64 0, .int .i64 0] 29)).alloc (.cells #[.string s, .int .i64 0] 56))) := Lib.hid (R3.new w s _ _ _)
  have CD := Lib.hid (fun w0 (h : ScanAt (w.heap.size + 1 + 1) s ((0 : Nat) : Int) w0) => (rday_any (w.heap.size + 1 + 1) s 0 w0 h (Nat.zero_le _) hs).mono fun e w' (h : RdPost _ _ _ _ _ _) => show e = .returned (.tuple #[.int .i64 P.day, .bool P.wide, .agg #[.int .i64 0, .int .i64 P.place]]) ∧ ScanAt (w.heap.size + 1 + 1) s (P.at_ : Int) w' ∧ Only (w.heap.size + 1 + 1) w0 w' from by rw [hP] at h; exact h.ok hx)
  have CT : Hid (∀ w0, ScanAt (w.heap.size + 1 + 1) s (P.at_ : Int) w0 → Calls Tryz.prog 23 #[.pointer (some ⟨w.heap.size + 1 + 1, 0, none⟩), .int .u8 84] w0 fun e w' => e = .returned (.bool true) ∧ ScanAt (w.heap.size + 1 + 1) s ((P.at_ + 1 : Nat) : Int) w' ∧ Only (w.heap.size + 1 + 1) w0 w') := Lib.hid fun w0 h => by
      have q := ris_any (w.heap.size + 1 + 1) s P.at_ 84 w0 h hs
      rw [hT, isK_yes hT] at q
      exact q
  have hDb := dayP_bd (s := s); rw [hP] at hDb; have hDb2 := hDb hx; clear hDb; obtain ⟨db1, db2⟩ := hDb2
  have CC := Lib.hid (fun w0 (h : ScanAt (w.heap.size + 1 + 1) s ((P.at_ + 1 : Nat) : Int) w0) => (rclock_any (w.heap.size + 1 + 1) s (P.at_ + 1) P.wide w0 h (isB_lt hT) hs).mono fun e w' (h : RcPost _ _ _ _ _ _) => show e = .returned (.tuple #[.int .i64 C.sec, .agg #[.int .i64 0, .int .i64 C.place]]) ∧ ScanAt (w.heap.size + 1 + 1) s (C.at_ : Int) w' ∧ Only (w.heap.size + 1 + 1) w0 w' from by rw [hC] at h; exact h.ok hc)
  have CZ := Lib.hid (fun w0 (h : ScanAt (w.heap.size + 1 + 1) s (C.at_ : Int) w0) => (rzone_any (w.heap.size + 1 + 1) s C.at_ P.wide w0 h hs).mono fun e w' (h : RzPost _ _ _ _ _ _) => show e = .returned (.tuple #[.int .i64 Z.kind, .int .i64 Z.off, .agg #[.int .i64 0, .int .i64 Z.place]]) ∧ ScanAt (w.heap.size + 1 + 1) s (Z.at_ : Int) w' ∧ Only (w.heap.size + 1 + 1) w0 w' from by rw [hZ] at h; exact h.ok hz)
  have HE : Hid (parP s = endP P.day C.sec Z.kind Z.off s.size Z.at_) := Lib.hid (by unfold parP parD; rw [hP, if_pos hx, if_pos hT, hC]; unfold parC; rw [if_pos hc, hZ, if_pos hz])
  have hsec := clockP_sec (s := s) (wd := P.wide) (k := P.at_ + 1); rw [hC] at hsec; have hsec2 := hsec hc; clear hsec
  obtain ⟨PL, hPL⟩ : ∃ x, P.place = x := ⟨_, rfl⟩
  obtain ⟨CP, hCP⟩ : ∃ x, C.place = x := ⟨_, rfl⟩
  obtain ⟨ZP, hZP⟩ : ∃ x, Z.place = x := ⟨_, rfl⟩
  obtain ⟨D, hD⟩ : ∃ x, P.day = x := ⟨_, rfl⟩
  obtain ⟨SC, hSC⟩ : ∃ x, C.sec = x := ⟨_, rfl⟩
  obtain ⟨ZK, hZK⟩ : ∃ x, Z.kind = x := ⟨_, rfl⟩
  obtain ⟨ZO, hZO⟩ : ∃ x, Z.off = x := ⟨_, rfl⟩
  obtain ⟨K, hK⟩ : ∃ x, Z.at_ = x := ⟨_, rfl⟩
  rw [hPL, hD] at CD; rw [hD] at db1 db2; rw [hSC, hCP] at CC; rw [hZK, hZO, hZP, hK] at CZ; rw [hD, hSC, hZK, hZO, hK] at HE; rw [hSC] at hfull hsec2
  clear hP hC hZ hx hT hc hz hPL hCP hZP hD hSC hZK hZO hK
  have hsq : 0 ≤ SC ∧ SC < 86400 := hsec2.resolve_left hfull; obtain ⟨s1, s2⟩ := hsq; have hqt : Int.tdiv SC 86400 = 0 := Int.tdiv_eq_zero_of_lt s1 s2; clear hsec2
  by_cases hlt : K < s.size
  · have HP : Hid (parP s = ⟨0, 0, 0, 5, ((K : Nat) : Int)⟩) := Lib.hid (by rw [HE.out]; unfold endP; rw [if_pos hlt])
    have hld : decide (K < s.size) = true := decide_eq_true hlt; have hldi : decide (((K : Nat) : Int) < (s.size : Int)) = true := decide_eq_true (by omega)
    have CB : Hid (∀ w0, ScanAt (w.heap.size + 1 + 1) s ((K : Nat) : Int) w0 → Calls Tryz.prog 26 #[.pointer (some ⟨w.heap.size + 1 + 1, 0, none⟩)] w0 fun e w' => e = .returned (.agg #[.int .i64 5, .int .i64 ((K : Nat) : Int)]) ∧ Below w0.heap.size w0 w') := Lib.hid fun w0 h => form_any (w.heap.size + 1 + 1) s (K) w0 h
    go_enter Tryz.func8, Tryz.ntmps8
    go_wp2_with (first
      | (go_at_call 22; (with_reducible refine (CD.out _ HR0.out.scan).mono ?_); rintro e w1 ⟨rfl, hS, hO⟩; have hR := HR0.out.only hS hO; have HR1 := Lib.hid hR; have HX1 := Lib.hid (hR.begin 0 PL 29 24); have hz1 := hR.2.2.1.1; clear hS hO hR)
      | (go_at_call 23; (with_reducible refine (CT.out _ HX1.out.scan).mono ?_); rintro e w2 ⟨rfl, hS, hO⟩; have hR := HX1.out.only hS hO; have HX2 := Lib.hid hR; obtain ⟨z0, ⟨c0, f0⟩, ⟨c1, f1⟩, ⟨c2, f2⟩⟩ := hR.1; obtain ⟨-, ⟨d0, g0⟩, ⟨d1, g1⟩⟩ := hR.2.1; obtain ⟨-, k0, k1, -⟩ := hR.2.2.1; obtain ⟨-, ⟨m0, n0⟩, ⟨m1, n1⟩⟩ := hR.2.2.2.1; obtain ⟨-, ⟨p0, q0⟩, ⟨p1, q1⟩, ⟨p2, q2⟩⟩ := hR.2.2.2.2.1; clear hS hO hR)
      | (go_at_call 24; (with_reducible refine (CC.out _ HX2.out.scan).mono ?_); rintro e w3 ⟨rfl, hS, hO⟩; have hR := HX2.out.only hS hO; have HX3 := Lib.hid (hR.putb 0 CP); obtain ⟨z0, ⟨c0, f0⟩, ⟨c1, f1⟩, ⟨c2, f2⟩⟩ := hR.1; obtain ⟨-, ⟨d0, g0⟩, ⟨d1, g1⟩⟩ := hR.2.1; obtain ⟨-, k0, k1, -⟩ := hR.2.2.1; obtain ⟨-, ⟨m0, n0⟩, ⟨m1, n1⟩⟩ := hR.2.2.2.1; obtain ⟨-, ⟨p0, q0⟩, ⟨p1, q1⟩, ⟨p2, q2⟩⟩ := hR.2.2.2.2.1; clear hS hO hR)
      | (go_at_call 25; (with_reducible refine (CZ.out _ HX3.out.scan).mono ?_); rintro e w4 ⟨rfl, hS, hO⟩; have hR := HX3.out.only hS hO; have hR4 := (((hR.put1 ZK).put2 ZO).putb 0 ZP); have HX4 := Lib.hid hR4; obtain ⟨z0, ⟨c0, f0⟩, ⟨c1, f1⟩, ⟨c2, f2⟩⟩ := hR.1; obtain ⟨-, ⟨d0, g0⟩, ⟨d1, g1⟩⟩ := hR.2.1; obtain ⟨-, k0, k1, -⟩ := hR.2.2.1; obtain ⟨-, ⟨m0, n0⟩, ⟨m1, n1⟩⟩ := hR.2.2.2.1; obtain ⟨-, ⟨p0, q0⟩, ⟨p1, q1⟩, ⟨p2, q2⟩⟩ := hR.2.2.2.2.1; clear hS hO hR hR4)
      | (go_at_call 26; (with_reducible refine (CB.out _ HX4.out.scan).mono ?_); rintro e wz ⟨rfl, hb⟩; have hR := HX4.out.call hb; have HXZ := Lib.hid hR; obtain ⟨z0, ⟨c0, f0⟩, ⟨c1, f1⟩, ⟨c2, f2⟩⟩ := hR.1; obtain ⟨-, ⟨d0, g0⟩, ⟨d1, g1⟩⟩ := hR.2.1; obtain ⟨-, k0, k1, -⟩ := hR.2.2.1; obtain ⟨-, ⟨m0, n0⟩, ⟨m1, n1⟩⟩ := hR.2.2.2.1; obtain ⟨-, ⟨p0, q0⟩, ⟨p1, q1⟩, ⟨p2, q2⟩⟩ := hR.2.2.2.2.1; clear hb hR))
    have hq := HXZ.out.r3.fin (0) (0) (0) (5) (((K : Nat) : Int))
    exact bodyPost_ret (v := .tuple #[.agg #[.int .i64 (0), .int .i64 (0), .int .i64 (0)], .agg #[.int .i64 (5), .int .i64 (((K : Nat) : Int))]]) (by simp [results, Tryz.results8, go_sem, hq.1.2.1.1, hq.1.2.2.1.1, hq.1.2.2.2.1, hq.2.1.2.1.1, hq.2.1.2.2.1]) rfl ⟨by rw [HP.out], hq.2.2⟩
  · have hld : decide (K < s.size) = false := decide_eq_false hlt; have hldi : decide (((K : Nat) : Int) < (s.size : Int)) = false := decide_eq_false (by omega)
    have CH : Hid (∀ w0, Calls Tryz.prog 27 #[.int .i64 (D)] w0 fun e w' => e = .returned (.tuple #[.int .i64 (rangeR (D)), .int .i64 (joinE (D) (SC))]) ∧ w0 = w') := Lib.hid fun w0 => (there_any (D) w0).mono fun e w' h => by rw [joinE_range s1 s2]; exact h
    by_cases hj : joinE (D) (SC) = 0
    · obtain ⟨jr, j1, j2⟩ := joinR_good hj
      have HP : Hid (parP s = ⟨D * 86400 + SC, ZK, ZO, 0, -1⟩) := Lib.hid (by rw [HE.out]; unfold endP; rw [if_neg hlt]; simp [hj, hfull]; rw [jr])
      rw [hj] at CH; clear hj jr
      have CFI : Hid (∀ w0, Calls Tryz.prog 29 #[] w0 fun e w' => e = .returned (.agg #[.int .i64 0, .int .i64 (-1)]) ∧ Below w0.heap.size w0 w') := Lib.hid fineR_any
      go_enter Tryz.func8, Tryz.ntmps8
      go_wp2_with (first
        | (go_at_call 22; (with_reducible refine (CD.out _ HR0.out.scan).mono ?_); rintro e w1 ⟨rfl, hS, hO⟩; have hR := HR0.out.only hS hO; have HR1 := Lib.hid hR; have HX1 := Lib.hid (hR.begin 0 PL 29 24); have hz1 := hR.2.2.1.1; clear hS hO hR)
        | (go_at_call 23; (with_reducible refine (CT.out _ HX1.out.scan).mono ?_); rintro e w2 ⟨rfl, hS, hO⟩; have hR := HX1.out.only hS hO; have HX2 := Lib.hid hR; obtain ⟨z0, ⟨c0, f0⟩, ⟨c1, f1⟩, ⟨c2, f2⟩⟩ := hR.1; obtain ⟨-, ⟨d0, g0⟩, ⟨d1, g1⟩⟩ := hR.2.1; obtain ⟨-, k0, k1, -⟩ := hR.2.2.1; obtain ⟨-, ⟨m0, n0⟩, ⟨m1, n1⟩⟩ := hR.2.2.2.1; obtain ⟨-, ⟨p0, q0⟩, ⟨p1, q1⟩, ⟨p2, q2⟩⟩ := hR.2.2.2.2.1; clear hS hO hR)
        | (go_at_call 24; (with_reducible refine (CC.out _ HX2.out.scan).mono ?_); rintro e w3 ⟨rfl, hS, hO⟩; have hR := HX2.out.only hS hO; have HX3 := Lib.hid (hR.putb 0 CP); obtain ⟨z0, ⟨c0, f0⟩, ⟨c1, f1⟩, ⟨c2, f2⟩⟩ := hR.1; obtain ⟨-, ⟨d0, g0⟩, ⟨d1, g1⟩⟩ := hR.2.1; obtain ⟨-, k0, k1, -⟩ := hR.2.2.1; obtain ⟨-, ⟨m0, n0⟩, ⟨m1, n1⟩⟩ := hR.2.2.2.1; obtain ⟨-, ⟨p0, q0⟩, ⟨p1, q1⟩, ⟨p2, q2⟩⟩ := hR.2.2.2.2.1; clear hS hO hR)
        | (go_at_call 25; (with_reducible refine (CZ.out _ HX3.out.scan).mono ?_); rintro e w4 ⟨rfl, hS, hO⟩; have hR := HX3.out.only hS hO; have hR4 := (((hR.put1 ZK).put2 ZO).putb 0 ZP); have HX4 := Lib.hid hR4; obtain ⟨z0, ⟨c0, f0⟩, ⟨c1, f1⟩, ⟨c2, f2⟩⟩ := hR.1; obtain ⟨-, ⟨d0, g0⟩, ⟨d1, g1⟩⟩ := hR.2.1; obtain ⟨-, k0, k1, -⟩ := hR.2.2.1; obtain ⟨-, ⟨m0, n0⟩, ⟨m1, n1⟩⟩ := hR.2.2.2.1; obtain ⟨-, ⟨p0, q0⟩, ⟨p1, q1⟩, ⟨p2, q2⟩⟩ := hR.2.2.2.2.1; clear hS hO hR hR4)
        | (go_at_call 27; (with_reducible refine (CH.out _).mono ?_); rintro e wj ⟨rfl, rfl⟩))
      have hV := HX4.out.put0 (D * 86400 + SC)
      obtain ⟨-, ⟨p0, q0⟩, ⟨p1, q1⟩, ⟨p2, q2⟩⟩ := hV.2.2.2.2.1
      have y0 := cell_regrown p0; have y1 := cell_regrown p1; have y2 := cell_regrown p2
      have HV := Lib.hid hV; clear hV
      refine wp_region_below_tail 2 (by kernel_rfl) (by kernel_rfl) ?_
      simp only [List.take_succ_cons, List.take_zero, List.drop_succ_cons, List.drop_zero]
      repeat (go_big_quiet_step ((go_at_call 29; exact Calls.regrown_of (CFI.out _))))
      refine wpQuiet_nil ?_
      intro wz hb
      have hR := HV.out.call hb; have HXZ := Lib.hid hR; obtain ⟨z0, ⟨c0, f0⟩, ⟨c1, f1⟩, ⟨c2, f2⟩⟩ := hR.1; obtain ⟨-, ⟨d0, g0⟩, ⟨d1, g1⟩⟩ := hR.2.1; clear hb hR
      go_wp2_with fail
      have hq := HXZ.out.r3.fin (D * 86400 + SC) (ZK) (ZO) (0) (-1)
      exact bodyPost_ret (v := .tuple #[.agg #[.int .i64 (D * 86400 + SC), .int .i64 (ZK), .int .i64 (ZO)], .agg #[.int .i64 (0), .int .i64 (-1)]]) (by simp [results, Tryz.results8, go_sem, hq.1.2.1.1, hq.1.2.2.1.1, hq.1.2.2.2.1, hq.2.1.2.1.1, hq.2.1.2.2.1]) rfl ⟨by rw [HP.out], hq.2.2⟩
    · have HP : Hid (parP s = ⟨0, 0, 0, joinE (D) (SC), -1⟩) := Lib.hid (by rw [HE.out]; unfold endP; rw [if_neg hlt]; simp [hj, hfull])
      obtain ⟨EE, hEE⟩ : ∃ x, joinE (D) (SC) = x := ⟨_, rfl⟩; rw [hEE] at HP CH hj; have hxb : (EE == 0) = false := by simpa using hj
      clear hEE hj
      have CBA : Hid (∀ w0, Calls Tryz.prog 28 #[.int .i64 EE] w0 fun e w' => e = .returned (.agg #[.int .i64 EE, .int .i64 (-1)]) ∧ Below w0.heap.size w0 w') := Lib.hid fun w0 => badR_any _ w0
      go_enter Tryz.func8, Tryz.ntmps8
      go_wp2_with (first
        | (go_at_call 22; (with_reducible refine (CD.out _ HR0.out.scan).mono ?_); rintro e w1 ⟨rfl, hS, hO⟩; have hR := HR0.out.only hS hO; have HR1 := Lib.hid hR; have HX1 := Lib.hid (hR.begin 0 PL 29 24); have hz1 := hR.2.2.1.1; clear hS hO hR)
        | (go_at_call 23; (with_reducible refine (CT.out _ HX1.out.scan).mono ?_); rintro e w2 ⟨rfl, hS, hO⟩; have hR := HX1.out.only hS hO; have HX2 := Lib.hid hR; obtain ⟨z0, ⟨c0, f0⟩, ⟨c1, f1⟩, ⟨c2, f2⟩⟩ := hR.1; obtain ⟨-, ⟨d0, g0⟩, ⟨d1, g1⟩⟩ := hR.2.1; obtain ⟨-, k0, k1, -⟩ := hR.2.2.1; obtain ⟨-, ⟨m0, n0⟩, ⟨m1, n1⟩⟩ := hR.2.2.2.1; obtain ⟨-, ⟨p0, q0⟩, ⟨p1, q1⟩, ⟨p2, q2⟩⟩ := hR.2.2.2.2.1; clear hS hO hR)
        | (go_at_call 24; (with_reducible refine (CC.out _ HX2.out.scan).mono ?_); rintro e w3 ⟨rfl, hS, hO⟩; have hR := HX2.out.only hS hO; have HX3 := Lib.hid (hR.putb 0 CP); obtain ⟨z0, ⟨c0, f0⟩, ⟨c1, f1⟩, ⟨c2, f2⟩⟩ := hR.1; obtain ⟨-, ⟨d0, g0⟩, ⟨d1, g1⟩⟩ := hR.2.1; obtain ⟨-, k0, k1, -⟩ := hR.2.2.1; obtain ⟨-, ⟨m0, n0⟩, ⟨m1, n1⟩⟩ := hR.2.2.2.1; obtain ⟨-, ⟨p0, q0⟩, ⟨p1, q1⟩, ⟨p2, q2⟩⟩ := hR.2.2.2.2.1; clear hS hO hR)
        | (go_at_call 25; (with_reducible refine (CZ.out _ HX3.out.scan).mono ?_); rintro e w4 ⟨rfl, hS, hO⟩; have hR := HX3.out.only hS hO; have hR4 := (((hR.put1 ZK).put2 ZO).putb 0 ZP); have HX4 := Lib.hid hR4; obtain ⟨z0, ⟨c0, f0⟩, ⟨c1, f1⟩, ⟨c2, f2⟩⟩ := hR.1; obtain ⟨-, ⟨d0, g0⟩, ⟨d1, g1⟩⟩ := hR.2.1; obtain ⟨-, k0, k1, -⟩ := hR.2.2.1; obtain ⟨-, ⟨m0, n0⟩, ⟨m1, n1⟩⟩ := hR.2.2.2.1; obtain ⟨-, ⟨p0, q0⟩, ⟨p1, q1⟩, ⟨p2, q2⟩⟩ := hR.2.2.2.2.1; clear hS hO hR hR4)
        | (go_at_call 27; (with_reducible refine (CH.out _).mono ?_); rintro e wj ⟨rfl, rfl⟩)
        | (go_at_call 28; (with_reducible refine (CBA.out _).mono ?_); rintro e wz ⟨rfl, hb⟩; have hR := HX4.out.call hb; have HXZ := Lib.hid hR; obtain ⟨z0, ⟨c0, f0⟩, ⟨c1, f1⟩, ⟨c2, f2⟩⟩ := hR.1; obtain ⟨-, ⟨d0, g0⟩, ⟨d1, g1⟩⟩ := hR.2.1; obtain ⟨-, k0, k1, -⟩ := hR.2.2.1; obtain ⟨-, ⟨m0, n0⟩, ⟨m1, n1⟩⟩ := hR.2.2.2.1; obtain ⟨-, ⟨p0, q0⟩, ⟨p1, q1⟩, ⟨p2, q2⟩⟩ := hR.2.2.2.2.1; clear hb hR))
      have hq := HXZ.out.r3.fin (0) (0) (0) (EE) (-1)
      exact bodyPost_ret (v := .tuple #[.agg #[.int .i64 (0), .int .i64 (0), .int .i64 (0)], .agg #[.int .i64 (EE), .int .i64 (-1)]]) (by simp [results, Tryz.results8, go_sem, hq.1.2.1.1, hq.1.2.2.1.1, hq.1.2.2.2.1, hq.2.1.2.1.1, hq.2.1.2.2.1]) rfl ⟨by rw [HP.out], hq.2.2⟩
theorem rparseS_any (s : ByteArray) (w : World) (hs : s.size ≤ 9223372036854775807) : Calls Tryz.prog 8 #[.string s] w (RsPost (parP s) w) := by
  by_cases hx : (dayP s 0).err = 0
  · cases hT : isB s (dayP s 0).at_ 84 with
    | false => exact rparse_noT s w hs _ rfl hx hT
    | true =>
      by_cases hc : (clockP s (dayP s 0).wide ((dayP s 0).at_ + 1)).err = 0
      · by_cases hz : (zoneP s (dayP s 0).wide (clockP s (dayP s 0).wide ((dayP s 0).at_ + 1)).at_).err = 0
        · by_cases hf : (clockP s (dayP s 0).wide ((dayP s 0).at_ + 1)).sec = 86400
          · exact rparse_Tfull s w hs _ _ _ rfl rfl rfl hx hT hc hz hf
          · exact rparse_Tpart s w hs _ _ _ rfl rfl rfl hx hT hc hz hf
        · exact rparse_zone s w hs _ _ _ rfl rfl rfl hx hT hc hz
      · exact rparse_clock s w hs _ _ rfl rfl hx hT hc
  · exact rparse_day s w hs _ rfl hx
end Go.Proofs.YtkfpnlenmdlmjaaGreatDoor
