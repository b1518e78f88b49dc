/- Set.All; busy.can: a range over a function. -/
import Derived.RangeFuncNested
import Derived.RangeFuncBound
import Derived.RangeFuncCalls
import Derived.RangeFuncLeaves
import Derived.Shelf.Abstract
import Derived.Shelf.RegionOpen
import Derived.WalkKit
import Derived.OwnWalkIn
import Derived.TacticsInMore
import Derived.LoopNIn
import Derived.LoopIn
import Derived.Test.YtbmndenopgkpoaaDoorBsyA
import Derived.Test.YtbmndenopgkpoaaDoorMomB
namespace Go.Proofs.YtbmndenopgkpoaaDoor
open Go.RowKit Go.Shelf
attribute [local go_sem] Oper.semAt_some
theorem iv_getB {l : List Iv} {k : Nat} (h : k < l.length) : l[k]? = some (l.getD k iv0) := by simp [List.getD, h]
set_option maxHeartbeats 1000000 in
theorem msAll_in (n : Nat) (oa : Option Addr) (m cap : Nat) (w : World) :
    CallsIn Fence.wide n Tryd.prog 59 #[.agg #[.slice oa m cap]] w fun e w' => e = .returned (.func (.func 77) #[] #[.pointer (some ⟨w.heap.size, 0, none⟩)]) ∧ w' = w.alloc (.cells #[.slice oa m cap] 31) := by
  refine callsIn_of_wp Tryd.func59 rfl trivial ?_ rfl
  simp only [Tryd.ntmps59, List.size_toArray, List.length_cons, List.length_nil, Nat.reduceAdd, Nat.reduceSub, Array.replicate_succ, Array.replicate_zero, List.push_toArray, List.append_toArray, List.nil_append, List.cons_append]
  gi_wp2
  go_ret
  exact ⟨rfl, rfl⟩
set_option maxRecDepth 100000 in
set_option maxHeartbeats 2000000 in
theorem msAll1_in (n : Nat) (hn : 1 ≤ n) (l Bs n₀ : Nat) (oa : Option Addr) (m cap : Nat) (L : List Iv) (hm : L.length = m) (hreach : m ≤ 1000000000) (J Jx : List Iv → World → Prop) (W : World) (hJ : AbidesFrom W.heap.size J)
    (hY : ∀ pre (x : Iv) W, J pre W → pre.length < L.length → YieldAt Fence.wide (n - 1) Tryd.prog l #[.agg #[.int .i64 x.1, .int .i64 x.2]] W fun e W' =>
      (e = .returned (.bool true) ∧ J (pre ++ [x]) W' ∧ Below n₀ W W') ∨ (e = .returned (.bool false) ∧ Jx (pre ++ [x]) W'))
    (hBs : W.cell? ⟨Bs, 0, none⟩ = some (.slice oa m cap)) (hR : IvR W oa L) (hb : ∀ a, oa = some a → 0 < m → a.block < n₀) (hn0 : n₀ ≤ W.heap.size) (h0 : J [] W) :
    CallsIn Fence.wide n Tryd.prog 77 #[.func (.yield l) #[] #[], .pointer (some ⟨Bs, 0, none⟩)] W fun e W' => (∃ v, e = .returned v) ∧
      ((∃ ys, ys = L ∧ J ys W') ∨ (∃ pre, pre <+: L ∧ Jx pre W')) := by
  refine callsIn_of_wp Tryd.func77 rfl trivial ?_ rfl
  simp only [Tryd.ntmps77, List.size_toArray, List.length_cons, List.length_nil, Nat.reduceAdd, Nat.reduceSub, Array.replicate_succ, Array.replicate_zero, List.push_toArray, List.append_toArray, List.nil_append, List.cons_append]
  gi_wp2
  gi_loopw [8] (fun i wr => ∃ k : Nat, k ≤ m ∧ i = .int .i64 (k : Int) ∧ J (L.take k) wr ∧ Below n₀ W wr ∧ W.heap.size ≤ wr.heap.size) (fun i _ => m - (intOf i).toNat)
  case atStart => exact ⟨0, Nat.zero_le _, rfl, by simpa using h0, Below.refl _ _, Nat.le_refl _⟩
  case round =>
    obtain ⟨k, hk, rfl, hJs, hnx, hsz⟩ := hrel
    by_cases hlt : k < m
    · obtain ⟨a, rfl⟩ : ∃ a, oa = some a := hR.1 (by omega)
      obtain ⟨c1, c2⟩ := hR.at (i := k) (by omega)
      have hbl := hb a rfl (by omega)
      have d1 : wr.cell? (a.add (k * 2)) = some (.int .i64 (L.getD k iv0).1) := (hnx.cell (p := a.add (k * 2)) (by rw [ivAdd_block]; exact hbl)).trans c1
      have d2 : wr.cell? { block := (a.add (k * 2)).block, off := (a.add (k * 2)).off + 1 } = some (.int .i64 (L.getD k iv0).2) := (hnx.cell (p := { block := (a.add (k * 2)).block, off := (a.add (k * 2)).off + 1 }) (by show (a.add (k * 2)).block < n₀; rw [ivAdd_block]; exact hbl)).trans c2
      clear c1 c2
      have htk : L.take (k + 1) = L.take k ++ [L.getD k iv0] := by rw [List.take_add_one, iv_getB (by omega)]; rfl
      obtain ⟨x, hx⟩ : ∃ x, L.getD k iv0 = x := ⟨_, rfl⟩
      rw [hx] at d1 d2 htk
      have hJA : J (L.take k) (wr.alloc (.cells #[.int .i64 x.1, .int .i64 x.2] 55)) := hJ _ _ _ none hJs (World.grownBy_alloc wr _ none) (fun r e => by cases e)
      have hBA : Below n₀ W (wr.alloc (.cells #[.int .i64 x.1, .int .i64 x.2] 55)) := hnx.alloc (Nat.le_trans hn0 hsz) _
      obtain ⟨fn, tmps, assign, body, hy, hRR⟩ := hY _ x _ hJA (by rw [List.length_take]; omega)
      have k1 : (k : Int) < (m : Int) := by omega
      have k2 : (0 : Int) ≤ (k : Int) := by omega
      have H1 := Lib.hid hJ
      have H2 := Lib.hid hY
      clear hJ hY hx hJA hb hR hJs
      gi_wp2
      refine hRR.mono ?_
      rintro e W3 (⟨rfl, hJ3, hk3⟩ | ⟨rfl, hJx3⟩)
      · gi_wp2
        go_roundw
        case rel => exact ⟨k + 1, by omega, by simp, by rw [htk]; exact hJ3, hBA.trans hk3, by have h3 := hk3.size; rw [World.size_alloc] at h3; omega⟩
        case measure => simp [intOf]; omega
      · gi_wp2
        refine bodyPost_ret (results_none rfl _ _ _) rfl ?_
        exact ⟨⟨_, rfl⟩, .inr ⟨_, by rw [← htk]; exact List.take_prefix _ _, hJx3⟩⟩
    · obtain rfl : k = m := by omega
      gi_wp2
      go_end0
      exact ⟨⟨_, rfl⟩, .inl ⟨_, by rw [← hm, List.take_length], hJs⟩⟩

theorem msAll_stops (n : Nat) (hn : 1 ≤ n) (Bs n₀ : Nat) (oa : Option Addr) (m cap : Nat) (L : List Iv) (hm : L.length = m) (hreach : m ≤ 1000000000) (w : World) (hBs : Bs < w.heap.size) (hn0 : n₀ ≤ w.heap.size) (hc : w.cell? ⟨Bs, 0, none⟩ = some (.slice oa m cap)) (hR : IvR w oa L) (hb : ∀ a, oa = some a → 0 < m → a.block < n₀) :
    SeqStopsK Fence.wide n Tryd.prog 77 #[.pointer (some ⟨Bs, 0, none⟩)] (fun x : Iv => #[Value.agg #[.int .i64 x.1, .int .i64 x.2]]) (Below n₀) (fun ys => ys = L) (fun pre => pre <+: L) L.length w := fun l J Jx W hW hJ _ hY h0 =>
  msAll1_in n hn l Bs n₀ oa m cap L hm hreach J Jx W hJ hY ((hW.cell (p := ⟨Bs, 0, none⟩) hBs).trans hc) (hR.call hW) hb (Nat.le_trans hn0 hW.size) h0
def Box2 (W : World) (B : Nat) (t : TypeId) (u v : Value) : Prop := W.heap[B]? = some (.cells #[u, v] t (0, 0))
theorem Box2.cell0 {W : World} {B : Nat} {t : TypeId} {u v : Value} (h : Box2 W B t u v) : W.cell? ⟨B, 0, none⟩ = some u := by simp [World.cell?, show W.heap[B]? = _ from h]
theorem Box2.cell1 {W : World} {B : Nat} {t : TypeId} {u v : Value} (h : Box2 W B t u v) : W.cell? ⟨B, 1, none⟩ = some v := by simp [World.cell?, show W.heap[B]? = _ from h]
theorem Box2.new (W : World) (t : TypeId) (u v : Value) : Box2 (W.alloc (.cells #[u, v] t)) W.heap.size t u v := World.alloc_heap_new W _
theorem Box2.kept {W W' : World} {row : Option Nat} {B : Nat} {t : TypeId} {u v : Value} (h : Box2 W B t u v) (hg : W.grownBy W' row) (hr : ∀ r, row = some r → ∃ o : Obj, W.heap[r]? = some o ∧ o.isCells = false) : Box2 W' B t u v :=
  (hg.block B (Array.getElem?_eq_some_iff.1 h).1 (fun e' => by obtain ⟨o, ho, hc⟩ := hr B e'.symm; rw [show W.heap[B]? = _ from h] at ho; cases ho; cases hc)).trans h
set_option maxRecDepth 100000 in
set_option maxHeartbeats 4000000 in
theorem can_in (n : Nat) (hn : 6 ≤ n) (oa : Option Addr) (m cap : Nat) (L : List Iv) (a b : Int) (w : World) (hm : L.length = m) (hreach : m ≤ 1000000000) (hR : IvR w oa L) :
    CallsIn Fence.wide n Tryd.prog 40 #[.agg #[.slice oa m cap], .int .i64 a, .int .i64 b] w fun e w' => e = .returned (.bool (canB L a b)) ∧ Below w.heap.size w w' := by
  have h1 : 1 ≤ n := by omega
  refine callsIn_of_wp_marks Tryd.func40 rfl trivial ?_ rfl
  simp only [Tryd.ntmps40, List.size_toArray, List.length_cons, List.length_nil, Nat.reduceAdd, Nat.reduceSub, Array.replicate_succ, Array.replicate_zero, List.push_toArray, List.append_toArray, List.nil_append, List.cons_append]
  gi_wp2_with (refine ⟨trivial, ?_⟩; gi_at_call 59; refine (msAll_in (n - 1) _ _ _ _).mono ?_; rintro e w' ⟨rfl, rfl⟩)
  obtain ⟨z, hz⟩ : ∃ z, w.heap.size = z := ⟨_, rfl⟩
  have bF := (((Boxed.new (w.alloc (.cells #[.slice oa m cap] 31)) 3 (.int .i64 a)).alloc (.cells #[.int .i64 b] 3)).alloc (.cells #[.bool false] 4)).alloc (.cells #[.slice oa m cap] 31)
  have bT := ((Boxed.new ((w.alloc (.cells #[.slice oa m cap] 31)).alloc (.cells #[.int .i64 a] 3)) 3 (.int .i64 b)).alloc (.cells #[.bool false] 4)).alloc (.cells #[.slice oa m cap] 31)
  have bR := (Boxed.new (((w.alloc (.cells #[.slice oa m cap] 31)).alloc (.cells #[.int .i64 a] 3)).alloc (.cells #[.int .i64 b] 3)) 4 (.bool false)).alloc (.cells #[.slice oa m cap] 31)
  have bA := Boxed.new ((((w.alloc (.cells #[.slice oa m cap] 31)).alloc (.cells #[.int .i64 a] 3)).alloc (.cells #[.int .i64 b] 3)).alloc (.cells #[.bool false] 4)) 31 (.slice oa m cap)
  have hB0 : Below w.heap.size w (((((w.alloc (.cells #[.slice oa m cap] 31)).alloc (.cells #[.int .i64 a] 3)).alloc (.cells #[.int .i64 b] 3)).alloc (.cells #[.bool false] 4)).alloc (.cells #[.slice oa m cap] 31)) := (((((Below.refl _ w).alloc (Nat.le_refl _) _).alloc (by simp) _).alloc (by simp; omega) _).alloc (by simp; omega) _).alloc (by simp; omega) _
  have hsz : (((((w.alloc (.cells #[.slice oa m cap] 31)).alloc (.cells #[.int .i64 a] 3)).alloc (.cells #[.int .i64 b] 3)).alloc (.cells #[.bool false] 4)).alloc (.cells #[.slice oa m cap] 31)).heap.size = z + 5 := by simp [hz]
  simp only [World.size_alloc] at bF bT bR bA ⊢
  obtain ⟨W0, hW0⟩ : ∃ W0, ((((w.alloc (.cells #[.slice oa m cap] 31)).alloc (.cells #[.int .i64 a] 3)).alloc (.cells #[.int .i64 b] 3)).alloc (.cells #[.bool false] 4)).alloc (.cells #[.slice oa m cap] 31) = W0 := ⟨_, rfl⟩
  rw [hW0] at bF bT bR bA hB0 hsz ⊢
  clear hW0
  have hRc := hR.call hB0
  have hbl : ∀ c, oa = some c → 0 < m → c.block < w.heap.size := fun c hc h0 => (hR.2 c hc).1 (by omega)
  rw [hz] at bF bT bR bA hB0 hbl ⊢
  have hcan : ∀ p, p ∈ L → ¬ (p.1 < b ∧ a < p.2) → True := fun _ _ _ => trivial
  refine wpIn_rangeFunc_ownH rfl h1 (gf := 77) (lb := #[.pointer (some ⟨z + 1 + 1 + 1 + 1, 0, none⟩)]) rfl trivial (enters_of Tryd.func77 (by kernel_rfl) rfl)
    (msAll_stops (n - 1) (by omega) (z + 1 + 1 + 1 + 1) z oa m cap L hm hreach W0 (by omega) (by omega) bA.cell hRc hbl) belowK_t (belowK_b (by omega)) (Below.refl _ _) (fun _ => rfl)
    (fun pre W => ((((∀ p ∈ pre, ¬ (p.1 < b ∧ a < p.2)) ∧ Boxed W (z + 1) 3 (.int .i64 a)) ∧ Boxed W (z + 1 + 1) 3 (.int .i64 b)) ∧ Boxed W (z + 1 + 1 + 1) 4 (.bool false)) ∧ Below z w W)
    (fun c pre W => ((c = .ret ∧ ∃ p ∈ pre, p.1 < b ∧ a < p.2) ∧ Boxed W (z + 1 + 1 + 1) 4 (.bool false)) ∧ Below z w W)
    (OwnFrom.and (OwnFrom.and (OwnFrom.and (OwnFrom.and (ownFrom_pure _ _) (Own.from (boxed_own _ _ _) _)) (Own.from (boxed_own _ _ _) _)) (Own.from (boxed_own _ _ _) _)) (ownFrom_below (by omega) (by omega)))
    (fun c => OwnFrom.and (OwnFrom.and (ownFrom_pure _ _) (Own.from (boxed_own _ _ _) _)) (ownFrom_below (by omega) (by omega)))
    ⟨⟨⟨⟨by simp, bF⟩, bT⟩, bR⟩, hB0⟩
    (fun x a' W => ∃ Bx, z + 1 + 1 + 1 < Bx ∧ Box2 W Bx 55 (.int .i64 x.1) (.int .i64 x.2) ∧ a' = { tmps := #[.agg #[.slice oa m cap], .int .i64 a, .int .i64 b, .pointer (some ⟨z, 0, none⟩), .pointer (some ⟨z + 1, 0, none⟩), .pointer (some ⟨z + 1 + 1, 0, none⟩), .pointer (some ⟨z + 1 + 1 + 1, 0, none⟩), .pointer (some ⟨Bx, 0, none⟩), .agg #[.slice oa m cap], .func (.func 77) #[] #[.pointer (some ⟨z + 1 + 1 + 1 + 1, 0, none⟩)], .agg #[.int .i64 x.1, .int .i64 x.2], undef, undef, undef, undef, undef, undef, undef, undef, undef, undef], defers := [] })
    (fun x a' _ X Y row hs hg hr => by obtain ⟨Bx, e1, e2, e3⟩ := hs; exact ⟨Bx, e1, e2.kept hg (fun r e => (hr r e).2), e3⟩)
    ?assign ?body ?done ?stop
  case assign =>
    rintro l pre x W K ⟨⟨⟨⟨hp, bF1⟩, bT1⟩, bR1⟩, hB1⟩ hK
    gi_wp2
    have hzW : z ≤ W.heap.size := by have := bR1.lt; omega
    exact hK _ _ ((KeepsOthers.alloc _ _).from _) ((Below.refl _ W).alloc hzW _) ⟨⟨⟨⟨hp, bF1.alloc _⟩, bT1.alloc _⟩, bR1.alloc _⟩, hB1.alloc hzW _⟩ ⟨W.heap.size, bR1.lt, Box2.new W 55 _ _, rfl⟩
  case body =>
    rintro l pre x a' W hl hr0 ⟨⟨⟨⟨hp, bF1⟩, bT1⟩, bR1⟩, hB1⟩ ⟨Bx, hBx, bX, rfl⟩ hlt
    have cF := bF1.cell
    have cT := bT1.cell
    have cR := bR1.cell
    have fR := bR1.frozen
    have cX := bX.cell0
    have cY := bX.cell1
    by_cases h2 : x.1 < b ∧ a < x.2
    · obtain ⟨g1, g2⟩ := h2
      gi_wp2
      exact ⟨(KeepsOthers.setCell _ _ _).from _, ⟨⟨rfl, x, List.mem_append.2 (.inr (by simp)), g1, g2⟩, bR1.set _⟩, hB1.setCell (p := ⟨z + 1 + 1 + 1, 0, none⟩) (by show z ≤ z + 1 + 1 + 1; omega) _⟩
    · have hp2 : ∀ p ∈ pre ++ [x], ¬ (p.1 < b ∧ a < p.2) := fun p hp' => (List.mem_append.1 hp').elim (hp p) (fun e => by simp at e; subst e; exact h2)
      by_cases g1 : x.1 < b
      · have g2 : ¬ a < x.2 := fun g => h2 ⟨g1, g⟩
        clear h2
        gi_wp2
        exact ⟨KeepsFrom.refl _ _, Below.refl _ _, ⟨⟨⟨fun u v hm h3 => Int.not_lt.1 fun h4 => hp2 (u, v) hm ⟨h3, h4⟩, bF1⟩, bT1⟩, bR1⟩, hB1⟩
      · clear h2
        gi_wp2
        exact ⟨KeepsFrom.refl _ _, Below.refl _ _, ⟨⟨⟨fun u v hm h3 => Int.not_lt.1 fun h4 => hp2 (u, v) hm ⟨h3, h4⟩, bF1⟩, bT1⟩, bR1⟩, hB1⟩
  case done =>
    rintro D ys W hD rfl ⟨⟨⟨⟨hp, bF1⟩, bT1⟩, bR1⟩, hB1⟩ hK
    have cR := bR1.cell
    have fR := bR1.frozen
    gi_wp2
    have hK' := (KeepsOthers.setCell W ⟨z + 1 + 1 + 1, 0, none⟩ (.bool true)).same D _ hK rfl
    refine ⟨by simp, .inl ⟨_, _, rfl, run_takeDeferred hK', ?_⟩⟩
    have hc5 := cell_kept (bR1.set (.bool true)).cell (grownBy_putObj' _ D (.deferred none)) (fun r e => by cases e; exact ⟨_, hK', rfl⟩)
    refine ⟨.bool true, ?_, by rw [canB_iff.2 hp], by rw [hz]; exact (hB1.setCell (p := ⟨z + 1 + 1 + 1, 0, none⟩) (by show z ≤ z + 1 + 1 + 1; omega) _).trans (belowK_b (w := w) (by omega) _ D _ _ (by omega) hK' rfl rfl)⟩
    simp [results, Tryd.f40, go_sem, hc5]
  case stop =>
    rintro D c pre W hD hpre ⟨⟨⟨rfl, p, hx, hy⟩, bR1⟩, hB1⟩ hK
    gi_wp2
    refine ⟨by simp, .inl ⟨_, _, rfl, run_takeDeferred hK, ?_⟩⟩
    have hc5 := cell_kept bR1.cell (grownBy_putObj' _ D (.deferred none)) (fun r e => by cases e; exact ⟨_, hK, rfl⟩)
    refine ⟨.bool false, ?_, ?_, by rw [hz]; exact hB1.trans (belowK_b (w := w) (by omega) W D _ _ (by omega) hK rfl rfl)⟩
    · simp [results, Tryd.f40, go_sem, hc5]
    · have hcf : canB L a b = false := by
        cases hcb : canB L a b
        · rfl
        · exact absurd hy (canB_iff.1 hcb p (hpre.subset hx))
      rw [hcf]
/-- busy.can: whether nothing of a time is of a set. -/
theorem can_any (v : Value) (L : List Iv) (a b : Int) (w : World) (h : IvS w v L) (hl : L.length ≤ 1000000000) :
    Calls Tryd.prog 40 #[.agg #[v], .int .i64 a, .int .i64 b] w fun e w' => e = .returned (.bool (canB L a b)) ∧ Below w.heap.size w w' := by
  obtain ⟨ob, cap, rfl, _, hR⟩ := h
  exact callsIn_wide.1 (can_in 6 (by omega) ob L.length cap L a b w rfl hl hR)
end Go.Proofs.YtbmndenopgkpoaaDoor
