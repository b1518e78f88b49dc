/- A calendar's scheme: of and find, by contracts over whatever calendar. -/
import Derived.Test.YtbgcccfgcdkmdaaGreatDoorDaysC
namespace Go.Proofs.YtbgcccfgcdkmdaaGreatDoor
open Go.RowKit
/-- WHAT A SCHEME's FOUR FUNCTIONS RECKON, in every world that holds what w0 does at the two captured variables (blocks mB, gB). -/
structure Sch (c : Int) (w0 : World) (sf lf mf gf : FuncId) (mc gc : Array Value) (mB gB : Nat) : Prop where
  se : ∀ args w, (callFunc sf args).run Tryz.prog w = .ok (.enter sf args) w
  le : ∀ args w, (callFunc lf args).run Tryz.prog w = .ok (.enter lf args) w
  me : ∀ args w, (callFunc mf args).run Tryz.prog w = .ok (.enter mf args) w
  ge : ∀ args w, (callFunc gf args).run Tryz.prog w = .ok (.enter gf args) w
  mlt : mB < w0.heap.size
  glt : gB < w0.heap.size
  start : ∀ y w, -25000 ≤ y → y ≤ 25000 → Calls Tryz.prog sf #[.int .i64 y] w fun e w' => e = .returned (.int .i64 (Dm.start c y)) ∧ w = w'
  leap : ∀ y w, -25000 ≤ y → y ≤ 25000 → Calls Tryz.prog lf #[.int .i64 y] w fun e w' => e = .returned (.bool (Dm.leap c y)) ∧ w = w'
  months : ∀ y w, -25000 ≤ y → y ≤ 25000 → w.cell? ⟨mB, 0, none⟩ = w0.cell? ⟨mB, 0, none⟩ → Calls Tryz.prog mf (#[.int .i64 y] ++ mc) w fun e w' => e = .returned (.int .i64 (Dm.months c y)) ∧ w = w'
  length : ∀ y m w, -20090 ≤ y → y ≤ 20890 → 1 ≤ m → m ≤ Dm.months c y → w.cell? ⟨gB, 0, none⟩ = w0.cell? ⟨gB, 0, none⟩ → RomanT w → Calls Tryz.prog gf (#[.int .i64 y, .int .i64 m] ++ gc) w fun e w' => e = .returned (.int .i64 (Dm.length c y m)) ∧ w = w'
theorem Sch.move {c : Int} {w0 w1 : World} {sf lf mf gf : FuncId} {mc gc : Array Value} {mB gB : Nat} (h : Sch c w0 sf lf mf gf mc gc mB gB) (hz : w0.heap.size ≤ w1.heap.size)
    (em : w1.cell? ⟨mB, 0, none⟩ = w0.cell? ⟨mB, 0, none⟩) (eg : w1.cell? ⟨gB, 0, none⟩ = w0.cell? ⟨gB, 0, none⟩) : Sch c w1 sf lf mf gf mc gc mB gB :=
  ⟨h.se, h.le, h.me, h.ge, Nat.lt_of_lt_of_le h.mlt hz, Nat.lt_of_lt_of_le h.glt hz, h.start, h.leap, fun y w h1 h2 hw => h.months y w h1 h2 (hw.trans em), fun y m w h1 h2 h3 h4 hw hr => h.length y m w h1 h2 h3 h4 (hw.trans eg) hr⟩
/-- The captured variables are new, or the table. -/
def NewB (w : World) (B : Nat) : Prop := B = 1 ∨ w.heap.size ≤ B
/-- The scheme as a value. -/
def schV (c : Int) (sf lf mf gf : FuncId) (mc gc : Array Value) : Value := .agg #[.int .i64 (Dm.first c), .func (Fn.func sf) #[] #[], .func (Fn.func lf) #[] #[], .func (Fn.func mf) #[] mc, .func (Fn.func gf) #[] gc]
theorem cell_mid (w : World) (x z : Obj) (v : Value) (t : TypeId) : (((w.alloc x).alloc (.cells #[v] t)).alloc z).cell? ⟨w.heap.size + 1, 0, none⟩ = some v := by
  rw [World.cell?_alloc_lt _ _ _ (by simp), World.cell?_alloc_at _ _ _ _ (by simp)]; rfl
theorem cell_end2 (w : World) (x : Obj) (v : Value) (t : TypeId) : ((w.alloc x).alloc (.cells #[v] t)).cell? ⟨w.heap.size + 1, 0, none⟩ = some v := by
  rw [World.cell?_alloc_at _ _ _ _ (by simp)]; rfl
theorem cell_end3 (w : World) (x y : Obj) (v : Value) (t : TypeId) : (((w.alloc x).alloc y).alloc (.cells #[v] t)).cell? ⟨w.heap.size + 1 + 1, 0, none⟩ = some v := by
  rw [World.cell?_alloc_at _ _ _ _ (by simp)]; rfl
def OfPost (c : Int) (w : World) (e : Ending) (w' : World) : Prop :=
  ∃ sf lf mf gf mc gc mB gB, e = .returned (.tuple #[schV c sf lf mf gf mc gc, .bool true]) ∧ Sch c w' sf lf mf gf mc gc mB gB ∧ NewB w mB ∧ NewB w gB ∧ Below w.heap.size w w'
theorem enter_gregorianStart (args : Array Value) (w : World) : (callFunc 119 args).run Tryz.prog w = .ok (.enter 119 args) w := by kernel_rfl
theorem enter_gregorianLeap (args : Array Value) (w : World) : (callFunc 120 args).run Tryz.prog w = .ok (.enter 120 args) w := by kernel_rfl
theorem enter_julianStart (args : Array Value) (w : World) : (callFunc 123 args).run Tryz.prog w = .ok (.enter 123 args) w := by kernel_rfl
theorem enter_julianLeap (args : Array Value) (w : World) : (callFunc 124 args).run Tryz.prog w = .ok (.enter 124 args) w := by kernel_rfl
theorem enter_copticStart (args : Array Value) (w : World) : (callFunc 125 args).run Tryz.prog w = .ok (.enter 125 args) w := by kernel_rfl
theorem enter_copticLeap (args : Array Value) (w : World) : (callFunc 126 args).run Tryz.prog w = .ok (.enter 126 args) w := by kernel_rfl
theorem enter_islamicStart (args : Array Value) (w : World) : (callFunc 128 args).run Tryz.prog w = .ok (.enter 128 args) w := by kernel_rfl
theorem enter_islamicLeap (args : Array Value) (w : World) : (callFunc 129 args).run Tryz.prog w = .ok (.enter 129 args) w := by kernel_rfl
theorem enter_persianStart (args : Array Value) (w : World) : (callFunc 131 args).run Tryz.prog w = .ok (.enter 131 args) w := by kernel_rfl
theorem enter_persianLeap (args : Array Value) (w : World) : (callFunc 132 args).run Tryz.prog w = .ok (.enter 132 args) w := by kernel_rfl
theorem enter_hebrewStart (args : Array Value) (w : World) : (callFunc 134 args).run Tryz.prog w = .ok (.enter 134 args) w := by kernel_rfl
theorem enter_hebrewLeap (args : Array Value) (w : World) : (callFunc 135 args).run Tryz.prog w = .ok (.enter 135 args) w := by kernel_rfl
theorem enter_sakaStart (args : Array Value) (w : World) : (callFunc 138 args).run Tryz.prog w = .ok (.enter 138 args) w := by kernel_rfl
theorem enter_sakaLeap (args : Array Value) (w : World) : (callFunc 139 args).run Tryz.prog w = .ok (.enter 139 args) w := by kernel_rfl
theorem enter_frenchStart (args : Array Value) (w : World) : (callFunc 141 args).run Tryz.prog w = .ok (.enter 141 args) w := by kernel_rfl
theorem enter_frenchLeap (args : Array Value) (w : World) : (callFunc 142 args).run Tryz.prog w = .ok (.enter 142 args) w := by kernel_rfl
theorem enter_egyptianStart (args : Array Value) (w : World) : (callFunc 143 args).run Tryz.prog w = .ok (.enter 143 args) w := by kernel_rfl
theorem enter_never (args : Array Value) (w : World) : (callFunc 144 args).run Tryz.prog w = .ok (.enter 144 args) w := by kernel_rfl
theorem enter_always1 (args : Array Value) (w : World) : (callFunc 146 args).run Tryz.prog w = .ok (.enter 146 args) w := by kernel_rfl
theorem enter_romanLength1 (args : Array Value) (w : World) : (callFunc 147 args).run Tryz.prog w = .ok (.enter 147 args) w := by kernel_rfl
theorem enter_thirty1 (args : Array Value) (w : World) : (callFunc 148 args).run Tryz.prog w = .ok (.enter 148 args) w := by kernel_rfl
theorem enter_islamicLength (args : Array Value) (w : World) : (callFunc 130 args).run Tryz.prog w = .ok (.enter 130 args) w := by kernel_rfl
theorem enter_persianLength (args : Array Value) (w : World) : (callFunc 133 args).run Tryz.prog w = .ok (.enter 133 args) w := by kernel_rfl
theorem enter_hebrewLength (args : Array Value) (w : World) : (callFunc 137 args).run Tryz.prog w = .ok (.enter 137 args) w := by kernel_rfl
theorem enter_sakaLength (args : Array Value) (w : World) : (callFunc 140 args).run Tryz.prog w = .ok (.enter 140 args) w := by kernel_rfl
theorem enter_hebrewMonths (args : Array Value) (w : World) : (callFunc 136 args).run Tryz.prog w = .ok (.enter 136 args) w := by kernel_rfl
theorem months12 (c y : Int) (h : c = 1 ∨ c = 2 ∨ c = 5 ∨ c = 6 ∨ c = 8) : Dm.months c y = 12 := by unfold Dm.months; rw [if_pos h]
theorem months13 (c y : Int) (h : c = 3 ∨ c = 4 ∨ c = 9 ∨ c = 10) : Dm.months c y = 13 := by unfold Dm.months; rw [if_neg (by omega), if_neg (by omega)]
set_option maxHeartbeats 1000000 in
theorem of_1 (w : World) (hr : RomanT w) : Calls Tryz.prog 111 #[.int .i64 1] w (OfPost 1 w) := by
  have HR := Lib.hid hr; clear hr
  have hmf : ∀ (fn : Fn) (first cap : Array Value) (w : World), (Instr.makeFunc fn first cap).run Tryz.prog w = .ok (.func fn first cap) w := fun _ _ _ _ => rfl
  go_enter Tryz.func111, Tryz.ntmps111
  go_wp2
  refine bodyPost_ret (v := .tuple #[schV 1 119 120 146 147 #[.pointer (some ⟨w.heap.size + 1, 0, none⟩)] #[.pointer (some ⟨w.heap.size + 1 + 1, 0, none⟩)], .bool true]) (by simp [results, Tryz.results111, go_sem, schV, Dm.first]) rfl ?_
  have hr := HR.out
  refine ⟨119, 120, 146, 147, #[.pointer (some ⟨w.heap.size + 1, 0, none⟩)], #[.pointer (some ⟨w.heap.size + 1 + 1, 0, none⟩)], (w.heap.size + 1), (w.heap.size + 1 + 1), rfl, ?_, .inr (by omega), .inr (by omega), ?_⟩
  rotate_left
  · repeat (first | with_reducible exact Below.refl _ _ | (with_reducible refine Below.alloc ?_ (by first | omega | (simp <;> omega)) _))
  · generalize hw' : World.alloc _ _ = W'
    have hB : Below w.heap.size w W' := by
      rw [← hw']
      repeat (first | with_reducible exact Below.refl _ _ | (with_reducible refine Below.alloc ?_ (by first | omega | (simp <;> omega)) _))
    subst hw'
    exact ⟨enter_gregorianStart, enter_gregorianLeap, enter_always1, enter_romanLength1, (by simp <;> omega), (by simp <;> omega), fun y w1 h1 h2 => gregorianStart_any y w1 (by omega) (by omega), fun y w1 h1 h2 => gregorianLeap_any y w1 (by omega) (by omega), fun y w1 _ _ hw => by rw [months12 1 y (by omega)]; exact always_any 12 y (w.heap.size + 1) w1 (hw.trans (by first | exact cell_mid _ _ _ _ _ | exact cell_end2 _ _ _ _)), fun y m w1 h1 h2 h3 h4 hw hr' => roman1_any y m (w.heap.size + 1 + 1) w1 (hw.trans (cell_end3 _ _ _ _ _)) hr' (by omega) (by omega) h3 (by rw [months12 1 y (by omega)] at h4; exact h4)⟩
set_option maxHeartbeats 1000000 in
theorem of_2 (w : World) (hr : RomanT w) : Calls Tryz.prog 111 #[.int .i64 2] w (OfPost 2 w) := by
  have HR := Lib.hid hr; clear hr
  have hmf : ∀ (fn : Fn) (first cap : Array Value) (w : World), (Instr.makeFunc fn first cap).run Tryz.prog w = .ok (.func fn first cap) w := fun _ _ _ _ => rfl
  go_enter Tryz.func111, Tryz.ntmps111
  go_wp2
  refine bodyPost_ret (v := .tuple #[schV 2 123 124 146 147 #[.pointer (some ⟨w.heap.size + 1, 0, none⟩)] #[.pointer (some ⟨w.heap.size + 1 + 1, 0, none⟩)], .bool true]) (by simp [results, Tryz.results111, go_sem, schV, Dm.first]) rfl ?_
  have hr := HR.out
  refine ⟨123, 124, 146, 147, #[.pointer (some ⟨w.heap.size + 1, 0, none⟩)], #[.pointer (some ⟨w.heap.size + 1 + 1, 0, none⟩)], (w.heap.size + 1), (w.heap.size + 1 + 1), rfl, ?_, .inr (by omega), .inr (by omega), ?_⟩
  rotate_left
  · repeat (first | with_reducible exact Below.refl _ _ | (with_reducible refine Below.alloc ?_ (by first | omega | (simp <;> omega)) _))
  · generalize hw' : World.alloc _ _ = W'
    have hB : Below w.heap.size w W' := by
      rw [← hw']
      repeat (first | with_reducible exact Below.refl _ _ | (with_reducible refine Below.alloc ?_ (by first | omega | (simp <;> omega)) _))
    subst hw'
    exact ⟨enter_julianStart, enter_julianLeap, enter_always1, enter_romanLength1, (by simp <;> omega), (by simp <;> omega), fun y w1 h1 h2 => julianStart_any y w1 (by omega) (by omega), fun y w1 h1 h2 => julianLeap_any y w1 (by omega) (by omega), fun y w1 _ _ hw => by rw [months12 2 y (by omega)]; exact always_any 12 y (w.heap.size + 1) w1 (hw.trans (by first | exact cell_mid _ _ _ _ _ | exact cell_end2 _ _ _ _)), fun y m w1 h1 h2 h3 h4 hw hr' => roman2_any y m (w.heap.size + 1 + 1) w1 (hw.trans (cell_end3 _ _ _ _ _)) hr' (by omega) (by omega) h3 (by rw [months12 2 y (by omega)] at h4; exact h4)⟩
set_option maxHeartbeats 1000000 in
theorem of_3 (w : World) (hr : RomanT w) : Calls Tryz.prog 111 #[.int .i64 3] w (OfPost 3 w) := by
  have HR := Lib.hid hr; clear hr
  have hmf : ∀ (fn : Fn) (first cap : Array Value) (w : World), (Instr.makeFunc fn first cap).run Tryz.prog w = .ok (.func fn first cap) w := fun _ _ _ _ => rfl
  go_enter Tryz.func111, Tryz.ntmps111
  go_wp2
  refine bodyPost_ret (v := .tuple #[schV 3 125 126 146 148 #[.pointer (some ⟨w.heap.size + 1, 0, none⟩)] #[.pointer (some ⟨w.heap.size + 1 + 1, 0, none⟩)], .bool true]) (by simp [results, Tryz.results111, go_sem, schV, Dm.first]) rfl ?_
  have hr := HR.out
  refine ⟨125, 126, 146, 148, #[.pointer (some ⟨w.heap.size + 1, 0, none⟩)], #[.pointer (some ⟨w.heap.size + 1 + 1, 0, none⟩)], (w.heap.size + 1), (w.heap.size + 1 + 1), rfl, ?_, .inr (by omega), .inr (by omega), ?_⟩
  rotate_left
  · repeat (first | with_reducible exact Below.refl _ _ | (with_reducible refine Below.alloc ?_ (by first | omega | (simp <;> omega)) _))
  · generalize hw' : World.alloc _ _ = W'
    have hB : Below w.heap.size w W' := by
      rw [← hw']
      repeat (first | with_reducible exact Below.refl _ _ | (with_reducible refine Below.alloc ?_ (by first | omega | (simp <;> omega)) _))
    subst hw'
    exact ⟨enter_copticStart, enter_copticLeap, enter_always1, enter_thirty1, (by simp <;> omega), (by simp <;> omega), fun y w1 h1 h2 => copticStart_any y w1 (by omega) (by omega), fun y w1 h1 h2 => copticLeap_any y w1 (by omega) (by omega), fun y w1 _ _ hw => by rw [months13 3 y (by omega)]; exact always_any 13 y (w.heap.size + 1) w1 (hw.trans (by first | exact cell_mid _ _ _ _ _ | exact cell_end2 _ _ _ _)), fun y m w1 h1 h2 h3 h4 hw _ => thirty3_any y m (w.heap.size + 1 + 1) w1 (hw.trans (cell_end3 _ _ _ _ _)) (by omega) (by omega) h3 (by rw [months13 3 y (by omega)] at h4; exact h4)⟩
set_option maxHeartbeats 1000000 in
theorem of_4 (w : World) (hr : RomanT w) : Calls Tryz.prog 111 #[.int .i64 4] w (OfPost 4 w) := by
  have HR := Lib.hid hr; clear hr
  have hmf : ∀ (fn : Fn) (first cap : Array Value) (w : World), (Instr.makeFunc fn first cap).run Tryz.prog w = .ok (.func fn first cap) w := fun _ _ _ _ => rfl
  go_enter Tryz.func111, Tryz.ntmps111
  go_wp2
  refine bodyPost_ret (v := .tuple #[schV 4 125 126 146 148 #[.pointer (some ⟨w.heap.size + 1, 0, none⟩)] #[.pointer (some ⟨w.heap.size + 1 + 1, 0, none⟩)], .bool true]) (by simp [results, Tryz.results111, go_sem, schV, Dm.first]) rfl ?_
  have hr := HR.out
  refine ⟨125, 126, 146, 148, #[.pointer (some ⟨w.heap.size + 1, 0, none⟩)], #[.pointer (some ⟨w.heap.size + 1 + 1, 0, none⟩)], (w.heap.size + 1), (w.heap.size + 1 + 1), rfl, ?_, .inr (by omega), .inr (by omega), ?_⟩
  rotate_left
  · repeat (first | with_reducible exact Below.refl _ _ | (with_reducible refine Below.alloc ?_ (by first | omega | (simp <;> omega)) _))
  · generalize hw' : World.alloc _ _ = W'
    have hB : Below w.heap.size w W' := by
      rw [← hw']
      repeat (first | with_reducible exact Below.refl _ _ | (with_reducible refine Below.alloc ?_ (by first | omega | (simp <;> omega)) _))
    subst hw'
    exact ⟨enter_copticStart, enter_copticLeap, enter_always1, enter_thirty1, (by simp <;> omega), (by simp <;> omega), fun y w1 h1 h2 => copticStart_any y w1 (by omega) (by omega), fun y w1 h1 h2 => copticLeap_any y w1 (by omega) (by omega), fun y w1 _ _ hw => by rw [months13 4 y (by omega)]; exact always_any 13 y (w.heap.size + 1) w1 (hw.trans (by first | exact cell_mid _ _ _ _ _ | exact cell_end2 _ _ _ _)), fun y m w1 h1 h2 h3 h4 hw _ => by rw [length4]; exact thirty3_any y m (w.heap.size + 1 + 1) w1 (hw.trans (cell_end3 _ _ _ _ _)) (by omega) (by omega) h3 (by rw [months13 4 y (by omega)] at h4; exact h4)⟩
set_option maxHeartbeats 1000000 in
theorem of_5 (w : World) (hr : RomanT w) : Calls Tryz.prog 111 #[.int .i64 5] w (OfPost 5 w) := by
  have HR := Lib.hid hr; clear hr
  have hmf : ∀ (fn : Fn) (first cap : Array Value) (w : World), (Instr.makeFunc fn first cap).run Tryz.prog w = .ok (.func fn first cap) w := fun _ _ _ _ => rfl
  go_enter Tryz.func111, Tryz.ntmps111
  go_wp2
  refine bodyPost_ret (v := .tuple #[schV 5 128 129 146 130 #[.pointer (some ⟨w.heap.size + 1, 0, none⟩)] #[], .bool true]) (by simp [results, Tryz.results111, go_sem, schV, Dm.first]) rfl ?_
  have hr := HR.out
  refine ⟨128, 129, 146, 130, #[.pointer (some ⟨w.heap.size + 1, 0, none⟩)], #[], (w.heap.size + 1), 1, rfl, ?_, .inr (by omega), .inl rfl, ?_⟩
  rotate_left
  · repeat (first | with_reducible exact Below.refl _ _ | (with_reducible refine Below.alloc ?_ (by first | omega | (simp <;> omega)) _))
  · generalize hw' : World.alloc _ _ = W'
    have hB : Below w.heap.size w W' := by
      rw [← hw']
      repeat (first | with_reducible exact Below.refl _ _ | (with_reducible refine Below.alloc ?_ (by first | omega | (simp <;> omega)) _))
    subst hw'
    exact ⟨enter_islamicStart, enter_islamicLeap, enter_always1, enter_islamicLength, (by simp <;> omega), (Nat.lt_of_lt_of_le hr.lt hB.size), fun y w1 h1 h2 => islamicStart_any y w1 (by omega) (by omega), fun y w1 h1 h2 => islamicLeap_any y w1 (by omega) (by omega), fun y w1 _ _ hw => by rw [months12 5 y (by omega)]; exact always_any 12 y (w.heap.size + 1) w1 (hw.trans (by first | exact cell_mid _ _ _ _ _ | exact cell_end2 _ _ _ _)), fun y m w1 h1 h2 h3 h4 _ _ => islamicLength_any y m w1 (by omega) (by omega) h3 (by rw [months12 5 y (by omega)] at h4; exact h4)⟩
set_option maxHeartbeats 1000000 in
theorem of_6 (w : World) (hr : RomanT w) : Calls Tryz.prog 111 #[.int .i64 6] w (OfPost 6 w) := by
  have HR := Lib.hid hr; clear hr
  have hmf : ∀ (fn : Fn) (first cap : Array Value) (w : World), (Instr.makeFunc fn first cap).run Tryz.prog w = .ok (.func fn first cap) w := fun _ _ _ _ => rfl
  go_enter Tryz.func111, Tryz.ntmps111
  go_wp2
  refine bodyPost_ret (v := .tuple #[schV 6 131 132 146 133 #[.pointer (some ⟨w.heap.size + 1, 0, none⟩)] #[], .bool true]) (by simp [results, Tryz.results111, go_sem, schV, Dm.first]) rfl ?_
  have hr := HR.out
  refine ⟨131, 132, 146, 133, #[.pointer (some ⟨w.heap.size + 1, 0, none⟩)], #[], (w.heap.size + 1), 1, rfl, ?_, .inr (by omega), .inl rfl, ?_⟩
  rotate_left
  · repeat (first | with_reducible exact Below.refl _ _ | (with_reducible refine Below.alloc ?_ (by first | omega | (simp <;> omega)) _))
  · generalize hw' : World.alloc _ _ = W'
    have hB : Below w.heap.size w W' := by
      rw [← hw']
      repeat (first | with_reducible exact Below.refl _ _ | (with_reducible refine Below.alloc ?_ (by first | omega | (simp <;> omega)) _))
    subst hw'
    exact ⟨enter_persianStart, enter_persianLeap, enter_always1, enter_persianLength, (by simp <;> omega), (Nat.lt_of_lt_of_le hr.lt hB.size), fun y w1 h1 h2 => persianStart_any y w1 (by omega) (by omega), fun y w1 h1 h2 => persianLeap_any y w1 (by omega) (by omega), fun y w1 _ _ hw => by rw [months12 6 y (by omega)]; exact always_any 12 y (w.heap.size + 1) w1 (hw.trans (by first | exact cell_mid _ _ _ _ _ | exact cell_end2 _ _ _ _)), fun y m w1 h1 h2 h3 h4 _ _ => persianLength_any y m w1 (by omega) (by omega) h3 (by rw [months12 6 y (by omega)] at h4; exact h4)⟩
set_option maxHeartbeats 1000000 in
theorem of_7 (w : World) (hr : RomanT w) : Calls Tryz.prog 111 #[.int .i64 7] w (OfPost 7 w) := by
  have HR := Lib.hid hr; clear hr
  have hmf : ∀ (fn : Fn) (first cap : Array Value) (w : World), (Instr.makeFunc fn first cap).run Tryz.prog w = .ok (.func fn first cap) w := fun _ _ _ _ => rfl
  go_enter Tryz.func111, Tryz.ntmps111
  go_wp2
  refine bodyPost_ret (v := .tuple #[schV 7 134 135 136 137 #[] #[], .bool true]) (by simp [results, Tryz.results111, go_sem, schV, Dm.first]) rfl ?_
  have hr := HR.out
  refine ⟨134, 135, 136, 137, #[], #[], 1, 1, rfl, ?_, .inl rfl, .inl rfl, ?_⟩
  rotate_left
  · repeat (first | with_reducible exact Below.refl _ _ | (with_reducible refine Below.alloc ?_ (by first | omega | (simp <;> omega)) _))
  · generalize hw' : World.alloc _ _ = W'
    have hB : Below w.heap.size w W' := by
      rw [← hw']
      repeat (first | with_reducible exact Below.refl _ _ | (with_reducible refine Below.alloc ?_ (by first | omega | (simp <;> omega)) _))
    subst hw'
    exact ⟨enter_hebrewStart, enter_hebrewLeap, enter_hebrewMonths, enter_hebrewLength, (Nat.lt_of_lt_of_le hr.lt hB.size), (Nat.lt_of_lt_of_le hr.lt hB.size), fun y w1 h1 h2 => hebrewStart_any y w1 (by omega) (by omega), fun y w1 h1 h2 => hebrewLeap_any y w1 (by omega) (by omega), fun y w1 h1 h2 _ => hebrewMonths_any y w1 (by omega) (by omega), fun y m w1 h1 h2 h3 h4 _ _ => hebrewLength_any y m w1 h1 h2 h3 (by have := Dm.months_lo 7 y; omega)⟩
set_option maxHeartbeats 1000000 in
theorem of_8 (w : World) (hr : RomanT w) : Calls Tryz.prog 111 #[.int .i64 8] w (OfPost 8 w) := by
  have HR := Lib.hid hr; clear hr
  have hmf : ∀ (fn : Fn) (first cap : Array Value) (w : World), (Instr.makeFunc fn first cap).run Tryz.prog w = .ok (.func fn first cap) w := fun _ _ _ _ => rfl
  go_enter Tryz.func111, Tryz.ntmps111
  go_wp2
  refine bodyPost_ret (v := .tuple #[schV 8 138 139 146 140 #[.pointer (some ⟨w.heap.size + 1, 0, none⟩)] #[], .bool true]) (by simp [results, Tryz.results111, go_sem, schV, Dm.first]) rfl ?_
  have hr := HR.out
  refine ⟨138, 139, 146, 140, #[.pointer (some ⟨w.heap.size + 1, 0, none⟩)], #[], (w.heap.size + 1), 1, rfl, ?_, .inr (by omega), .inl rfl, ?_⟩
  rotate_left
  · repeat (first | with_reducible exact Below.refl _ _ | (with_reducible refine Below.alloc ?_ (by first | omega | (simp <;> omega)) _))
  · generalize hw' : World.alloc _ _ = W'
    have hB : Below w.heap.size w W' := by
      rw [← hw']
      repeat (first | with_reducible exact Below.refl _ _ | (with_reducible refine Below.alloc ?_ (by first | omega | (simp <;> omega)) _))
    subst hw'
    exact ⟨enter_sakaStart, enter_sakaLeap, enter_always1, enter_sakaLength, (by simp <;> omega), (Nat.lt_of_lt_of_le hr.lt hB.size), fun y w1 h1 h2 => sakaStart_any y w1 (by omega) (by omega), fun y w1 h1 h2 => sakaLeap_any y w1 (by omega) (by omega), fun y w1 _ _ hw => by rw [months12 8 y (by omega)]; exact always_any 12 y (w.heap.size + 1) w1 (hw.trans (by first | exact cell_mid _ _ _ _ _ | exact cell_end2 _ _ _ _)), fun y m w1 h1 h2 h3 h4 _ _ => sakaLength_any y m w1 (by omega) (by omega) h3 (by rw [months12 8 y (by omega)] at h4; exact h4)⟩
set_option maxHeartbeats 1000000 in
theorem of_9 (w : World) (hr : RomanT w) : Calls Tryz.prog 111 #[.int .i64 9] w (OfPost 9 w) := by
  have HR := Lib.hid hr; clear hr
  have hmf : ∀ (fn : Fn) (first cap : Array Value) (w : World), (Instr.makeFunc fn first cap).run Tryz.prog w = .ok (.func fn first cap) w := fun _ _ _ _ => rfl
  go_enter Tryz.func111, Tryz.ntmps111
  go_wp2
  refine bodyPost_ret (v := .tuple #[schV 9 141 142 146 148 #[.pointer (some ⟨w.heap.size + 1, 0, none⟩)] #[.pointer (some ⟨w.heap.size + 1 + 1, 0, none⟩)], .bool true]) (by simp [results, Tryz.results111, go_sem, schV, Dm.first]) rfl ?_
  have hr := HR.out
  refine ⟨141, 142, 146, 148, #[.pointer (some ⟨w.heap.size + 1, 0, none⟩)], #[.pointer (some ⟨w.heap.size + 1 + 1, 0, none⟩)], (w.heap.size + 1), (w.heap.size + 1 + 1), rfl, ?_, .inr (by omega), .inr (by omega), ?_⟩
  rotate_left
  · repeat (first | with_reducible exact Below.refl _ _ | (with_reducible refine Below.alloc ?_ (by first | omega | (simp <;> omega)) _))
  · generalize hw' : World.alloc _ _ = W'
    have hB : Below w.heap.size w W' := by
      rw [← hw']
      repeat (first | with_reducible exact Below.refl _ _ | (with_reducible refine Below.alloc ?_ (by first | omega | (simp <;> omega)) _))
    subst hw'
    exact ⟨enter_frenchStart, enter_frenchLeap, enter_always1, enter_thirty1, (by simp <;> omega), (by simp <;> omega), fun y w1 h1 h2 => frenchStart_any y w1 (by omega) (by omega), fun y w1 h1 h2 => frenchLeap_any y w1 (by omega) (by omega), fun y w1 _ _ hw => by rw [months13 9 y (by omega)]; exact always_any 13 y (w.heap.size + 1) w1 (hw.trans (by first | exact cell_mid _ _ _ _ _ | exact cell_end2 _ _ _ _)), fun y m w1 h1 h2 h3 h4 hw _ => thirty9_any y m (w.heap.size + 1 + 1) w1 (hw.trans (cell_end3 _ _ _ _ _)) (by omega) (by omega) h3 (by rw [months13 9 y (by omega)] at h4; exact h4)⟩
set_option maxHeartbeats 1000000 in
theorem of_10 (w : World) (hr : RomanT w) : Calls Tryz.prog 111 #[.int .i64 10] w (OfPost 10 w) := by
  have HR := Lib.hid hr; clear hr
  have hmf : ∀ (fn : Fn) (first cap : Array Value) (w : World), (Instr.makeFunc fn first cap).run Tryz.prog w = .ok (.func fn first cap) w := fun _ _ _ _ => rfl
  go_enter Tryz.func111, Tryz.ntmps111
  go_wp2
  refine bodyPost_ret (v := .tuple #[schV 10 143 144 146 148 #[.pointer (some ⟨w.heap.size + 1, 0, none⟩)] #[.pointer (some ⟨w.heap.size + 1 + 1, 0, none⟩)], .bool true]) (by simp [results, Tryz.results111, go_sem, schV, Dm.first]) rfl ?_
  have hr := HR.out
  refine ⟨143, 144, 146, 148, #[.pointer (some ⟨w.heap.size + 1, 0, none⟩)], #[.pointer (some ⟨w.heap.size + 1 + 1, 0, none⟩)], (w.heap.size + 1), (w.heap.size + 1 + 1), rfl, ?_, .inr (by omega), .inr (by omega), ?_⟩
  rotate_left
  · repeat (first | with_reducible exact Below.refl _ _ | (with_reducible refine Below.alloc ?_ (by first | omega | (simp <;> omega)) _))
  · generalize hw' : World.alloc _ _ = W'
    have hB : Below w.heap.size w W' := by
      rw [← hw']
      repeat (first | with_reducible exact Below.refl _ _ | (with_reducible refine Below.alloc ?_ (by first | omega | (simp <;> omega)) _))
    subst hw'
    exact ⟨enter_egyptianStart, enter_never, enter_always1, enter_thirty1, (by simp <;> omega), (by simp <;> omega), fun y w1 h1 h2 => egyptianStart_any y w1 (by omega) (by omega), fun y w1 _ _ => never_any y w1, fun y w1 _ _ hw => by rw [months13 10 y (by omega)]; exact always_any 13 y (w.heap.size + 1) w1 (hw.trans (by first | exact cell_mid _ _ _ _ _ | exact cell_end2 _ _ _ _)), fun y m w1 h1 h2 h3 h4 hw _ => thirty10_any y m (w.heap.size + 1 + 1) w1 (hw.trans (cell_end3 _ _ _ _ _)) (by omega) (by omega) h3 (by rw [months13 10 y (by omega)] at h4; exact h4)⟩
set_option maxHeartbeats 1000000 in
theorem of_none (c : Int) (w : World) (hc : c < 1 ∨ 10 < c) : Calls Tryz.prog 111 #[.int .i64 c] w fun e w' => e = .returned (.tuple #[.agg #[.int .i64 0, .nilFunc, .nilFunc, .nilFunc, .nilFunc], .bool false]) ∧ Below w.heap.size w w' := by
  have q1 : (c == 1) = false := by simp; omega
  have q2 : (c == 2) = false := by simp; omega
  have q3 : (c == 3) = false := by simp; omega
  have q4 : (c == 4) = false := by simp; omega
  have q5 : (c == 5) = false := by simp; omega
  have q6 : (c == 6) = false := by simp; omega
  have q7 : (c == 7) = false := by simp; omega
  have q8 : (c == 8) = false := by simp; omega
  have q9 : (c == 9) = false := by simp; omega
  have q10 : (c == 10) = false := by simp; omega
  clear hc
  go_enter Tryz.func111, Tryz.ntmps111
  go_wp2
  refine bodyPost_ret (v := .tuple #[.agg #[.int .i64 0, .nilFunc, .nilFunc, .nilFunc, .nilFunc], .bool false]) (by simp [results, Tryz.results111, go_sem]) rfl ⟨rfl, ?_⟩
  repeat (first | with_reducible exact Below.refl _ _ | (with_reducible refine Below.alloc ?_ (by first | omega | (simp <;> omega)) _))
theorem of_any (c : Int) (w : World) (hr : RomanT w) (h1 : 1 ≤ c) (h2 : c ≤ 10) : Calls Tryz.prog 111 #[.int .i64 c] w (OfPost c w) := by
  have hc : c = 1 ∨ c = 2 ∨ c = 3 ∨ c = 4 ∨ c = 5 ∨ c = 6 ∨ c = 7 ∨ c = 8 ∨ c = 9 ∨ c = 10 := by omega
  rcases hc with rfl | rfl | rfl | rfl | rfl | rfl | rfl | rfl | rfl | rfl
  · exact of_1 w hr
  · exact of_2 w hr
  · exact of_3 w hr
  · exact of_4 w hr
  · exact of_5 w hr
  · exact of_6 w hr
  · exact of_7 w hr
  · exact of_8 w hr
  · exact of_9 w hr
  · exact of_10 w hr
end Go.Proofs.YtbgcccfgcdkmdaaGreatDoor
