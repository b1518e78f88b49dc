/- What the parts answer, each kind by itself; plain: a stamp's text. -/
import Derived.Test.YtkfpnlenmdlmjaaGreatDoorPrsC
import Derived.Test.YtkfpnlenmdlmjaaGreatDoorPrsE
import Derived.Test.YtkfpnlenmdlmjaaGreatDoorClkA
namespace Go.Proofs.YtkfpnlenmdlmjaaGreatDoor
open Go.RowKit Scm
theorem ErrIs.nil {B : Nat} {x pl : Int} {v : Value} {w : World} (h : ErrIs B x pl v w) (hx : x = 0) : v = .nilIface ∧ pl = -1 := by
  rcases h with ⟨_, h1, h2⟩ | ⟨h, _⟩ | ⟨h, _⟩
  · exact ⟨h2, h1⟩
  · exact absurd hx h
  · exact absurd hx h
theorem ErrIs.errno {B : Nat} {x pl : Int} {v : Value} {w : World} (h : ErrIs B x pl v w) (hx : x ≠ 0) (hp : pl = -1) : v = .iface 25 (.int .i64 x) := by
  rcases h with ⟨h, _⟩ | ⟨_, _, h⟩ | ⟨_, h, _⟩
  · exact absurd h hx
  · exact h
  · omega
theorem ErrIs.box {B : Nat} {x pl : Int} {v : Value} {w : World} (h : ErrIs B x pl v w) (hx : x ≠ 0) (hp : pl ≠ -1) : ∃ p : Nat, v = .iface 105 (.pointer (some ⟨p, 0, none⟩)) ∧ 0 ≤ pl ∧ AtBox B x pl (.iface 105 (.pointer (some ⟨p, 0, none⟩))) w := by
  rcases h with ⟨h, _⟩ | ⟨_, h, _⟩ | ⟨_, h, p, h1, h2⟩
  · exact absurd h hx
  · exact absurd h hp
  · exact ⟨p, h1, h, p, rfl, h2⟩
theorem DayPost.ok {b : Nat} {s : ByteArray} {P : DayP} {w w' : World} {e : Ending} (h : DayPost b s P w e w') (hx : P.err = 0) : e = .returned (.tuple #[.int .i64 P.day, .bool P.wide, .nilIface]) ∧ ScanAt b s (P.at_ : Int) w' ∧ Only b w w' := by
  obtain ⟨D, v, rfl, h1, h2, h3, h4⟩ := h
  obtain ⟨rfl, _⟩ := h2.nil hx
  exact ⟨by rw [h1 hx], h3, h4⟩
theorem DayPost.errno {b : Nat} {s : ByteArray} {P : DayP} {w w' : World} {e : Ending} (h : DayPost b s P w e w') (hx : P.err ≠ 0) (hp : P.place = -1) : ∃ D : Int, e = .returned (.tuple #[.int .i64 D, .bool P.wide, .iface 25 (.int .i64 P.err)]) ∧ ScanAt b s (P.at_ : Int) w' ∧ Only b w w' := by
  obtain ⟨D, v, rfl, h1, h2, h3, h4⟩ := h
  obtain rfl := h2.errno hx hp
  exact ⟨D, rfl, h3, h4⟩
theorem DayPost.box {b : Nat} {s : ByteArray} {P : DayP} {w w' : World} {e : Ending} (h : DayPost b s P w e w') (hx : P.err ≠ 0) (hp : P.place ≠ -1) : ∃ (D : Int) (p : Nat), e = .returned (.tuple #[.int .i64 D, .bool P.wide, .iface 105 (.pointer (some ⟨p, 0, none⟩))]) ∧ AtBox w.heap.size P.err P.place (.iface 105 (.pointer (some ⟨p, 0, none⟩))) w' ∧ ScanAt b s (P.at_ : Int) w' ∧ Only b w w' := by
  obtain ⟨D, v, rfl, h1, h2, h3, h4⟩ := h
  obtain ⟨p, rfl, _, h5⟩ := h2.box hx hp
  exact ⟨D, p, rfl, h5, h3, h4⟩
theorem CkPost.ok {b : Nat} {s : ByteArray} {P : CkP} {w w' : World} {e : Ending} (h : CkPost b s P w e w') (hx : P.err = 0) : e = .returned (.tuple #[.int .i64 P.sec, .nilIface]) ∧ ScanAt b s (P.at_ : Int) w' ∧ Only b w w' := by
  obtain ⟨K, v, rfl, h1, h2, h3, h4⟩ := h
  obtain ⟨rfl, _⟩ := h2.nil hx
  exact ⟨by rw [h1 hx], h3, h4⟩
theorem CkPost.errno {b : Nat} {s : ByteArray} {P : CkP} {w w' : World} {e : Ending} (h : CkPost b s P w e w') (hx : P.err ≠ 0) (hp : P.place = -1) : ∃ K : Int, e = .returned (.tuple #[.int .i64 K, .iface 25 (.int .i64 P.err)]) ∧ ScanAt b s (P.at_ : Int) w' ∧ Only b w w' := by
  obtain ⟨K, v, rfl, h1, h2, h3, h4⟩ := h
  obtain rfl := h2.errno hx hp
  exact ⟨K, rfl, h3, h4⟩
theorem CkPost.box {b : Nat} {s : ByteArray} {P : CkP} {w w' : World} {e : Ending} (h : CkPost b s P w e w') (hx : P.err ≠ 0) (hp : P.place ≠ -1) : ∃ (K : Int) (p : Nat), e = .returned (.tuple #[.int .i64 K, .iface 105 (.pointer (some ⟨p, 0, none⟩))]) ∧ AtBox w.heap.size P.err P.place (.iface 105 (.pointer (some ⟨p, 0, none⟩))) w' ∧ ScanAt b s (P.at_ : Int) w' ∧ Only b w w' := by
  obtain ⟨K, v, rfl, h1, h2, h3, h4⟩ := h
  obtain ⟨p, rfl, _, h5⟩ := h2.box hx hp
  exact ⟨K, p, rfl, h5, h3, h4⟩
theorem ZnPost.ok {b : Nat} {s : ByteArray} {P : ZnP} {w w' : World} {e : Ending} (h : ZnPost b s P w e w') (hx : P.err = 0) : e = .returned (.tuple #[.int .i64 P.kind, .int .i64 P.off, .nilIface]) ∧ ScanAt b s (P.at_ : Int) w' ∧ Only b w w' := by
  obtain ⟨K, O, v, rfl, h1, h2, h3, h4⟩ := h
  obtain ⟨rfl, _⟩ := h2.nil hx
  exact ⟨by rw [(h1 hx).1, (h1 hx).2], h3, h4⟩
theorem ZnPost.errno {b : Nat} {s : ByteArray} {P : ZnP} {w w' : World} {e : Ending} (h : ZnPost b s P w e w') (hx : P.err ≠ 0) (hp : P.place = -1) : ∃ K O : Int, e = .returned (.tuple #[.int .i64 K, .int .i64 O, .iface 25 (.int .i64 P.err)]) ∧ ScanAt b s (P.at_ : Int) w' ∧ Only b w w' := by
  obtain ⟨K, O, v, rfl, h1, h2, h3, h4⟩ := h
  obtain rfl := h2.errno hx hp
  exact ⟨K, O, rfl, h3, h4⟩
theorem ZnPost.box {b : Nat} {s : ByteArray} {P : ZnP} {w w' : World} {e : Ending} (h : ZnPost b s P w e w') (hx : P.err ≠ 0) (hp : P.place ≠ -1) : ∃ (K O : Int) (p : Nat), e = .returned (.tuple #[.int .i64 K, .int .i64 O, .iface 105 (.pointer (some ⟨p, 0, none⟩))]) ∧ AtBox w.heap.size P.err P.place (.iface 105 (.pointer (some ⟨p, 0, none⟩))) w' ∧ ScanAt b s (P.at_ : Int) w' ∧ Only b w w' := by
  obtain ⟨K, O, v, rfl, h1, h2, h3, h4⟩ := h
  obtain ⟨p, rfl, _, h5⟩ := h2.box hx hp
  exact ⟨K, O, p, rfl, h5, h3, h4⟩
/-- A stamp that was read. -/
structure StP where
  loc : Int
  zone : Int
  off : Int
  err : Int
  place : Int
def endP (day sec zk zo : Int) (n k : Nat) : StP :=
  if k < n then ⟨0, 0, 0, 5, k⟩
  else if joinE (if sec = 86400 then day + 1 else day) (if sec = 86400 then 0 else sec) = 0 then ⟨joinR (if sec = 86400 then day + 1 else day) (if sec = 86400 then 0 else sec), zk, zo, 0, -1⟩
  else ⟨0, 0, 0, joinE (if sec = 86400 then day + 1 else day) (if sec = 86400 then 0 else sec), -1⟩
def parC (s : ByteArray) (D : DayP) (C : CkP) : StP :=
  if C.err = 0 then
    if (zoneP s D.wide C.at_).err = 0 then endP D.day C.sec (zoneP s D.wide C.at_).kind (zoneP s D.wide C.at_).off s.size (zoneP s D.wide C.at_).at_
    else ⟨0, 0, 0, (zoneP s D.wide C.at_).err, (zoneP s D.wide C.at_).place⟩
  else ⟨0, 0, 0, C.err, C.place⟩
def parD (s : ByteArray) (D : DayP) : StP :=
  if D.err = 0 then if isB s D.at_ 84 = true then parC s D (clockP s D.wide (D.at_ + 1)) else endP D.day 0 0 0 s.size D.at_
  else ⟨0, 0, 0, D.err, D.place⟩
def parP (s : ByteArray) : StP := parD s (dayP s 0)
/-- What Parse answers. -/
def StPost2 (P : StP) (w : World) (e : Ending) (w' : World) : Prop :=
  Below w.heap.size w w' ∧ ∃ v, e = .returned (.tuple #[.agg #[.int .i64 P.loc, .int .i64 P.zone, .int .i64 P.off], v]) ∧ ErrIs w.heap.size P.err P.place v w'
end Go.Proofs.YtkfpnlenmdlmjaaGreatDoor
