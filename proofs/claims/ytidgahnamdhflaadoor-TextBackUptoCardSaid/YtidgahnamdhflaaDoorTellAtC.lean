/- api.Tell and plain.where of an *api.At. -/
import Derived.Test.YtidgahnamdhflaaDoorTellAtB
namespace Go.Proofs.YtidgahnamdhflaaDoor
open Go.RowKit Go.Extern.Stop Go.Stop Go.Extern
set_option maxHeartbeats 1000000 in
/-- Tell of an *api.At is its Errno. -/
theorem tell_at (p : Addr) (n : Int) (w : World) (hT : ErrT w) (hp : w.cell? p = some (.int .i64 n)) : Calls Tryd.prog 18 #[.iface 84 (.pointer (some p))] w fun e w' => e = .returned (.int .i64 n) ∧ Below w.heap.size w w' := by
  have hlt := hT.lt
  have hg := hT
  unfold ErrT at hg
  have hgA : (w.alloc (.cells #[.int .i64 0] 26)).cell? ⟨0, 0, none⟩ = some (.iface 121 (.agg #[.pointer (some ⟨4, 46, none⟩)])) := by
    rw [World.cell?_alloc_lt _ _ ⟨0, 0, none⟩ hlt]; exact hg
  have hpl : p.block < w.heap.size := by
    rcases Nat.lt_or_ge p.block w.heap.size with h | h
    · exact h
    · simp [World.cell?, Array.getElem?_eq_none h] at hp
  have hpA : (w.alloc (.cells #[.int .i64 0] 26)).cell? p = some (.int .i64 n) := by rw [World.cell?_alloc_lt _ _ p hpl]; exact hp
  have htA : (w.alloc (.cells #[.int .i64 0] 26)).cell? ⟨w.heap.size, 0, none⟩ = some (.int .i64 0) := by simp
  have hfA : (w.alloc (.cells #[.int .i64 0] 26)).frozen? ⟨w.heap.size, 0, none⟩ = false := by simp
  clear hT
  go_enter Tryd.func18, Tryd.ntmps18
  go_wp2_with (go_at_call 33; refine (as_unwrap n p _ (.int .i64 0) _ hgA hpA htA hfA).mono ?_; rintro e w' ⟨rfl, rfl⟩)
  go_ret
  refine ⟨rfl, ?_⟩
  repeat (first | exact Below.refl _ _ | (refine Below.setCell ?_ (by simp) _) | (refine Below.alloc ?_ (by simp <;> omega) _))
theorem where_nil (w : World) : Calls Tryd.prog 23 #[.nilIface] w fun e w' => e = .returned (.int .i64 (-1)) ∧ Below w.heap.size w w' := by
  go_enter Tryd.func23, Tryd.ntmps23
  go_wp2_with (go_at_call 33; refine (as_nil _ _).mono ?_; rintro e w' ⟨rfl, rfl⟩)
  go_ret
  exact ⟨rfl, by repeat (first | exact Below.refl _ _ | (refine Below.alloc ?_ (by simp <;> omega) _))⟩
theorem as_selfB (n t : Addr) (old : Value) (w : World) (hg : w.cell? ⟨0, 0, none⟩ = some (.iface 121 (.agg #[.pointer (some ⟨4, 46, none⟩)]))) (ht0 : w.cell? t = some old) (hf0 : w.frozen? t = false) :
    Calls Tryd.prog 33 #[.iface 84 (.pointer (some n)), .iface 86 (.pointer (some t))] w fun ev w' => ev = .returned (.bool true) ∧ w'.cell? t = some (.pointer (some n)) ∧ Below t.block w w' := by
  have htl : t.block < w.heap.size := by
    rcases Nat.lt_or_ge t.block w.heap.size with h | h
    · exact h
    · simp [World.cell?, Array.getElem?_eq_none h] at ht0
  refine (as_self n t old w hg ht0 hf0).mono ?_
  rintro e w' ⟨rfl, rfl⟩
  refine ⟨rfl, World.cell?_setCell_same _ _ _ (u := old) ?_, ?_⟩
  · rw [World.cell?_alloc_lt _ _ t (by simp; omega), World.cell?_alloc_lt _ _ t (by simp; omega), World.cell?_alloc_lt _ _ t (by simp; omega), World.cell?_alloc_lt _ _ t htl]; exact ht0
  · exact (((((Below.refl _ _).alloc (by omega) _).alloc (by simp; omega) _).alloc (by simp; omega) _).alloc (by simp; omega) _).setCell (Nat.le_refl _) _
set_option maxHeartbeats 1000000 in
theorem where_at (b o : Nat) (k : Int) (w : World) (hT : ErrT w) (hp : w.cell? ⟨b, o + 1, none⟩ = some (.int .i64 k)) : Calls Tryd.prog 23 #[.iface 84 (.pointer (some ⟨b, o, none⟩))] w fun e w' => e = .returned (.int .i64 k) ∧ Below w.heap.size w w' := by
  have hlt := hT.lt
  have hg := hT
  unfold ErrT at hg
  have hgA : (w.alloc (.cells #[.pointer none] 84)).cell? ⟨0, 0, none⟩ = some (.iface 121 (.agg #[.pointer (some ⟨4, 46, none⟩)])) := by
    rw [World.cell?_alloc_lt _ _ ⟨0, 0, none⟩ hlt]; exact hg
  have hpl : b < w.heap.size := by
    rcases Nat.lt_or_ge b w.heap.size with h | h
    · exact h
    · simp [World.cell?, Array.getElem?_eq_none h] at hp
  have htA : (w.alloc (.cells #[.pointer none] 84)).cell? ⟨w.heap.size, 0, none⟩ = some (.pointer none) := by simp
  have hfA : (w.alloc (.cells #[.pointer none] 84)).frozen? ⟨w.heap.size, 0, none⟩ = false := by simp
  clear hT
  have hpA : (w.alloc (.cells #[.pointer none] 84)).cell? ⟨b, o + 1, none⟩ = some (.int .i64 k) := by rw [World.cell?_alloc_lt _ _ ⟨b, o + 1, none⟩ hpl]; exact hp
  have HA : Hid (Below w.heap.size w (w.alloc (.cells #[.pointer none] 84))) := Lib.hid ((Below.refl _ _).alloc (Nat.le_refl _) _)
  go_enter Tryd.func23, Tryd.ntmps23
  go_wp2_with (go_at_call 33; refine (as_selfB ⟨b, o, none⟩ _ (.pointer none) _ hgA htA hfA).mono ?_; rintro e w1 ⟨rfl, ht1, hb1⟩; have hp1 := (hb1.cell (p := ⟨b, o + 1, none⟩) hpl).trans hpA; have HB1 := Lib.hid (HA.out.trans hb1); clear hb1)
  go_ret
  exact ⟨rfl, HB1.out⟩
end Go.Proofs.YtidgahnamdhflaaDoor
