/- A Cron that came in, opened. -/
import Derived.Test.YtdnbnpknmdcljaaGreatDoorCrnA
import Derived.Test.YtdnbnpknmdcljaaGreatDoorOpenR
namespace Go.Proofs.YtdnbnpknmdcljaaGreatDoor
open Go.ChangeShapes Go.WideShapes Go.ChangeAt Go.RowKit Go.Joins Go.Deep
theorem openR_ints {H : Type} {enc : TypeId × Value → H} {W : World} {base fuel : Nat} {held : Bool} {v : Value} {x : DataW H × List MemPlace} (hf : DataW.trod enc Tryz.prog W base (fun _ => true) held fuel 22 [v] = some x) (hr : ∀ n ∈ x.1.weights Tryz.prog 22, n ≤ 140737488351232) :
    ∃ l, IntS W v l ∧ l.length ≤ 140737488355328 := by
  rcases open_slice Tryz.underlying22 hf with ⟨hcs0, _⟩ | ⟨a, len, cap, m, n, D, Pl, hcs, hb, hl, hm, hmm, hx, hi⟩
  · obtain rfl : v = .slice none 0 0 := by simpa using hcs0
    exact ⟨[], ⟨none, 0, rfl, (fun h => absurd h (Nat.lt_irrefl 0)), fun a h => by cases h⟩, by simp⟩
  · obtain rfl : v = .slice (some a) len cap := by simpa using hcs
    simp only [if_true] at hmm
    have hlen : len * Tryz.prog.bytesOf 3 ≤ 140737488351232 := by
      subst hx
      have := reach_slice Tryz.underlying22 hr
      simpa using this
    have hby : Tryz.prog.bytesOf 3 = 8 := by kernel_rfl
    have hce : Tryz.prog.cellsOf 3 = 1 := by kernel_rfl
    rw [hby] at hlen
    have each : ∀ i, i < len → ∃ q : Int, W.cell? (a.add i) = some (.int .i64 q) := fun i hil => by
      obtain ⟨cs', hc, ht'⟩ := hi i (by omega)
      rw [hce, Nat.mul_one] at hc
      obtain ⟨q, rfl, _⟩ := DataW.trod_int Tryz.underlying3 ht'
      obtain ⟨_, hcl, hat⟩ := World.cells?_some hc
      have := hat 0 (by omega)
      rw [Go.Deep.add_add] at this
      exact ⟨q, by simpa using this⟩
    obtain ⟨q, hq⟩ := choose_lt each
    have hll : ((List.range len).map q).length = len := by simp
    have hg : ∀ k, k < len → ((List.range len).map q).getD k 0 = q k := fun k hk => by simp [List.getD, hk]
    refine ⟨(List.range len).map q, ⟨some a, cap, by rw [hll], fun _ => ⟨a, rfl⟩, fun b hb => ?_⟩, by rw [hll]; omega⟩
    injection hb with hb
    subst hb
    rw [hll]
    refine ⟨fun h0 => ?_, fun k hk => by rw [hg k hk]; exact hq k hk⟩
    have := World.block_lt_of_cell? _ _ (hq 0 h0)
    rwa [add_block] at this
set_option maxRecDepth 100000 in
theorem openR_pairs {H : Type} {enc : TypeId × Value → H} {W : World} {base fuel : Nat} {held : Bool} {v : Value} {x : DataW H × List MemPlace} (hf : DataW.trod enc Tryz.prog W base (fun _ => true) held fuel 23 [v] = some x) (hr : ∀ n ∈ x.1.weights Tryz.prog 23, n ≤ 140737488351232) :
    ∃ l, PairS W v l ∧ l.length ≤ 140737488355328 := by
  rcases open_slice Tryz.underlying23 hf with ⟨hcs0, _⟩ | ⟨a, len, cap, m, n, D, Pl, hcs, hb, hl, hm, hmm, hx, hi⟩
  · obtain rfl : v = .slice none 0 0 := by simpa using hcs0
    exact ⟨[], ⟨none, 0, rfl, (fun h => absurd h (Nat.lt_irrefl 0)), fun a h => by cases h⟩, by simp⟩
  · obtain rfl : v = .slice (some a) len cap := by simpa using hcs
    simp only [if_true] at hmm
    have hlen : len * Tryz.prog.bytesOf 59 ≤ 140737488351232 := by
      subst hx
      have := reach_slice Tryz.underlying23 hr
      simpa using this
    have hby : Tryz.prog.bytesOf 59 = 16 := by kernel_rfl
    have hce : Tryz.prog.cellsOf 59 = 2 := by kernel_rfl
    rw [hby] at hlen
    have each : ∀ i, i < len → ∃ q : Int × Int, W.cell? (a.add (i * 2)) = some (.int .i64 q.1) ∧ W.cell? (a.add (i * 2 + 1)) = some (.int .i64 q.2) := fun i hil => by
      obtain ⟨cs', hc, ht'⟩ := hi i (by omega)
      rw [hce] at hc
      obtain ⟨_, hcl, hat⟩ := World.cells?_some hc
      obtain ⟨ys, n', _, _, hl', hyl, hfi⟩ := DataW.trod_struct Tryz.underlying59 ht'
      rw [hce] at hl'
      match cs', hl' with
      | [u0, u1], _ =>
        have e0 := hfi 0 _ rfl
        have e1 := hfi 1 _ rfl
        simp at e0 e1
        have hyl' : ys.length = 2 := hyl
        have ce : Tryz.prog.cellsOf 3 = 1 := by kernel_rfl
        rw [ce] at e0 e1
        rw [List.getElem?_eq_getElem (by omega)] at e0 e1
        obtain ⟨x0, e0', _⟩ := DataW.trod_int Tryz.underlying3 e0
        obtain ⟨x1, e1', _⟩ := DataW.trod_int Tryz.underlying3 e1
        simp at e0' e1'
        subst e0' e1'
        have h0 := hat 0 (by simp)
        have h1 := hat 1 (by simp)
        rw [Go.Deep.add_add] at h0 h1
        exact ⟨(x0, x1), by simpa using h0, by simpa using h1⟩
    obtain ⟨q, hq⟩ := choose_lt each
    have hll : ((List.range len).map q).length = len := by simp
    have hg : ∀ k, k < len → ((List.range len).map q).getD k (0, 0) = q k := fun k hk => by simp [List.getD, hk]
    refine ⟨(List.range len).map q, ⟨some a, cap, by rw [hll], fun _ => ⟨a, rfl⟩, fun b hb => ?_⟩, by rw [hll]; omega⟩
    injection hb with hb
    subst hb
    rw [hll]
    refine ⟨fun h0 => ?_, fun k hk => by rw [hg k hk]; exact hq k hk⟩
    have := World.block_lt_of_cell? _ _ (hq 0 h0).1
    rwa [add_block] at this
set_option maxRecDepth 100000 in
set_option maxHeartbeats 1000000 in
theorem open_cron {H : Type} {enc : TypeId × Value → H} {W : World} {b0 : Nat} {r : Reach} {v : Value} {d : DataW H} {p : List MemPlace} (hv : Value.okWide Tryz.prog W r b0 25 v) (h : DataW.Trod enc Tryz.prog W 0 (fun _ => true) true 25 v d p) (hr : ∀ n ∈ d.weights Tryz.prog 25, n ≤ 140737488351232) :
    ∃ (c : Cron) (v0 v1 v2 v4 v6 v8 v9 v10 : Value), v = cronV c v0 v1 v2 v4 v6 v8 v9 v10 ∧ CronR W c v0 v1 v2 v4 v6 v8 v9 v10 ∧ CronZ c := by
  obtain ⟨l, ys, n, rfl, hl, hy, rfl, g⟩ := open_aggU Tryz.underlying25 (by kernel_rfl) (by kernel_rfl) hv h hr
  have hl' : l.length = 11 := hl
  have hy' : ys.length = 11 := hy
  match l, hl', ys, hy' with
  | [u0, u1, u2, u3, u4, u5, u6, u7, u8, u9, u10], _, [y0, y1, y2, y3, y4, y5, y6, y7, y8, y9, y10], _ =>
    obtain ⟨l0, r0, z0⟩ := openR_ints (g 0 _ _ _ rfl rfl rfl).1 (g 0 _ _ _ rfl rfl rfl).2
    obtain ⟨l1, r1, z1⟩ := openR_ints (g 1 _ _ _ rfl rfl rfl).1 (g 1 _ _ _ rfl rfl rfl).2
    obtain ⟨l2, r2, z2⟩ := openR_ints (g 2 _ _ _ rfl rfl rfl).1 (g 2 _ _ _ rfl rfl rfl).2
    obtain ⟨b3, e3, _⟩ := DataW.trod_bool Tryz.underlying4 (g 3 _ _ _ rfl rfl rfl).1
    obtain ⟨l4, r4, z4⟩ := openR_ints (g 4 _ _ _ rfl rfl rfl).1 (g 4 _ _ _ rfl rfl rfl).2
    obtain ⟨b5, e5, _⟩ := DataW.trod_bool Tryz.underlying4 (g 5 _ _ _ rfl rfl rfl).1
    obtain ⟨l6, r6, z6⟩ := openR_ints (g 6 _ _ _ rfl rfl rfl).1 (g 6 _ _ _ rfl rfl rfl).2
    obtain ⟨b7, e7, _⟩ := DataW.trod_bool Tryz.underlying4 (g 7 _ _ _ rfl rfl rfl).1
    obtain ⟨l8, r8, z8⟩ := openR_ints (g 8 _ _ _ rfl rfl rfl).1 (g 8 _ _ _ rfl rfl rfl).2
    obtain ⟨l9, r9, z9⟩ := openR_ints (g 9 _ _ _ rfl rfl rfl).1 (g 9 _ _ _ rfl rfl rfl).2
    obtain ⟨l10, r10, z10⟩ := openR_pairs (g 10 _ _ _ rfl rfl rfl).1 (g 10 _ _ _ rfl rfl rfl).2
    simp at e3 e5 e7
    subst e3 e5 e7
    exact ⟨⟨l0, l1, l2, b3, l4, b5, l6, b7, l8, l9, l10⟩, u0, u1, u2, u4, u6, u8, u9, u10, rfl, ⟨r0, r1, r2, r4, r6, r8, r9, r10⟩, ⟨z0, z1, z2, z4, z6, z8, z9, z10⟩⟩
end Go.Proofs.YtdnbnpknmdcljaaGreatDoor
