/- The program's order of tasks. -/
import Derived.Test.YthhaopdimilmcaaDoorPlnC
import Derived.Test.YthhaopdimilmcaaDoorAppend
import Derived.Laws.MakeOwn
import Derived.Laws.AppendOwnNone
import Derived.Deep.AppendLies
import Derived.OwnWalk
import Derived.Deep.MidRow
namespace Go.Proofs.YthhaopdimilmcaaDoor
open Go.RowKit
theorem made_at (v : Value) (n i : Nat) (h : i < n) : (madeCells #[v] (n * 1))[i]? = some v := by
  simp [madeCells, h, Nat.mod_one]
theorem int_info : (Tryd.prog.info? 3).map (fun i => (i.zero, i.size, i.bytes)) = some (some (.int .i64 0), 1, 8) := by kernel_rfl
theorem make_ints (n : Nat) (hn : n ≤ 1000000) : ∃ M : Array Value, (∀ i, i < n → M[i]? = some (.int .i64 0)) ∧ ∀ w, (Instr.makeSlice 23 (.int .i64 (n : Int)) (.int .i64 (n : Int))).run Tryd.prog w = .ok (.slice (some ⟨w.heap.size, 0, none⟩) n n) (w.alloc (.cells M 3)) := by
  obtain ⟨i0, hi, hz0, hz1, hz2⟩ := info_parts int_info
  refine ⟨madeCells #[.int .i64 0] (n * 1), fun i hi => made_at _ n i hi, fun w => ?_⟩
  have h := run_make w 23 3 i0 (.int .i64 0) Tryd.underlying23 hi hz0 .i64 .i64 n n (by omega) (Int.le_refl _) (by rw [hz2]; omega) (by omega)
  rw [hz1, Int.toNat_natCast] at h
  exact h
theorem OwnI.new (w : World) (n : Nat) (M : Array Value) (t : TypeId) (hM : ∀ i, i < n → M[i]? = some (.int .i64 0)) : OwnI (w.alloc (.cells M t)) w.heap.size n (fun _ => 0) :=
  ⟨by simp, fun j hj => ⟨by rw [World.cell?_alloc_at _ _ _ _ (by simp)]; simpa using hM j hj, by simp⟩⟩
/-- Whole numbers as cells. -/
def ntV (l : List Nat) : List Value := l.map fun (n : Nat) => Value.int .i64 (n : Int)
theorem ntV_snoc (l : List Nat) (x : Nat) : ntV (l ++ [x]) = ntV l ++ [.int .i64 (x : Int)] := by simp [ntV]
theorem ntV_len (l : List Nat) : (ntV l).length = l.length := by simp [ntV]
theorem ntV_at (l : List Nat) (k : Nat) (hk : k < l.length) : (ntV l)[k]? = some (.int .i64 ((l.getD k 0 : Nat) : Int)) := by
  simp [ntV, List.getD, hk]
/-- A list of whole numbers that the call made. -/
def IntsL (w : World) (b : Nat) (v : Value) (l : List Nat) : Prop := ∃ oa cap, v = .slice oa l.length cap ∧ l.length ≤ cap ∧ cap ≤ maxLen ∧ (0 < l.length → ∃ g, oa = some ⟨g, 0, none⟩ ∧ b ≤ g ∧ OwnI w g l.length fun j => ((l.getD j 0 : Nat) : Int))
theorem IntsL.call {w w' : World} {b : Nat} {v : Value} {l : List Nat} (h : IntsL w b v l) (hb : Below w.heap.size w w') : IntsL w' b v l := by
  obtain ⟨oa, cap, h1, h2, h3, h4⟩ := h
  refine ⟨oa, cap, h1, h2, h3, fun h0 => ?_⟩
  obtain ⟨g, h5, h6, h7⟩ := h4 h0
  exact ⟨g, h5, h6, h7.call hb⟩
theorem IntsL.own {w : World} {b : Nat} {v : Value} {l : List Nat} (h8 : w.ownsRow b 3 1 v l.length (ntV l)) : IntsL w b v l := by
  have hlt := h8.lt
  have hcells := fun (g : Nat) (hg : v.ownBlock = some g) => h8.cells hg
  rcases h8.2 with ⟨rfl, h0⟩ | ⟨g, cap, cur, rfl, hb, hh, hc1, hc2, _⟩
  · exact ⟨none, 0, by rw [h0], by omega, by simp [maxLen], fun hp => by omega⟩
  · refine ⟨some ⟨g, 0, none⟩, cap, rfl, hc1, hc2, fun _ => ⟨g, rfl, hb, (hlt g rfl).2, fun k hk => ⟨?_, ?_⟩⟩⟩
    · have h1 := hcells g rfl k _ (ntV_at l k hk)
      rw [Addr.add_lit] at h1
      simpa using h1
    · simp [World.frozen?, hh]
def inB (out : List Nat) (j : Nat) : Int := if j ∈ out then 1 else 0
theorem inB_snoc (out : List Nat) (i : Nat) : inB (out ++ [i]) = Plan.upd (inB out) i 1 := by
  funext j
  unfold inB Plan.upd
  by_cases h : j = i
  · subst h; simp
  · by_cases h2 : j ∈ out <;> simp [h, h2]
/-- The order under way: which are in, and the list. -/
def OrdSt (w : World) (n : Nat) (v : Value) (out : List Nat) (wr : World) : Prop :=
  wr.cell? ⟨w.heap.size + 1, 0, none⟩ = some (.slice (some ⟨w.heap.size, 0, none⟩) n n) ∧ OwnI wr w.heap.size n (inB out) ∧ w.heap.size + 2 ≤ wr.heap.size ∧ wr.ownsRow (w.heap.size + 2) 3 1 v out.length (ntV out) ∧ Below w.heap.size w wr
theorem OrdSt.call {w : World} {n : Nat} {v : Value} {out : List Nat} {wr w' : World} (h : OrdSt w n v out wr) (hb : Below wr.heap.size wr w') : OrdSt w n v out w' := by
  obtain ⟨h1, h2, h3, h4, h5⟩ := h
  exact ⟨(hb.cell (p := ⟨w.heap.size + 1, 0, none⟩) (by show w.heap.size + 1 < _; omega)).trans h1, h2.call hb, Nat.le_trans h3 hb.size, h4.kept (row := none) ⟨hb.os, hb.tape, hb.output, hb.size, fun k hk _ => hb.block k hk⟩ (by cases hv : v.ownBlock <;> simp), thenB h5 hb⟩
theorem OrdSt.alloc {w : World} {n : Nat} {v : Value} {out : List Nat} {wr : World} (h : OrdSt w n v out wr) (o : Obj) : OrdSt w n v out (wr.alloc o) := h.call (Below.alloc (Below.refl _ _) (Nat.le_refl _) _)
theorem OrdSt.form {w : World} {n : Nat} {v : Value} {out : List Nat} {wr : World} (h : OrdSt w n v out wr) : ∃ oa cap, v = .slice oa out.length cap := by
  obtain ⟨oa, cap, h1, _⟩ := IntsL.own h.2.2.2.1
  exact ⟨oa, cap, h1⟩
/-- One task more is in; then it stands in the list. -/
theorem OrdSt.mark {w : World} {n : Nat} {v : Value} {out : List Nat} {wr : World} (h : OrdSt w n v out wr) {i : Nat} (hi : i < n) : (wr.setCell ⟨w.heap.size, i, none⟩ (.int .i64 1)).cell? ⟨w.heap.size + 1, 0, none⟩ = some (.slice (some ⟨w.heap.size, 0, none⟩) n n) ∧ OwnI (wr.setCell ⟨w.heap.size, i, none⟩ (.int .i64 1)) w.heap.size n (inB (out ++ [i])) ∧ (wr.setCell ⟨w.heap.size, i, none⟩ (.int .i64 1)).ownsRow (w.heap.size + 2) 3 1 v out.length (ntV out) ∧ Below w.heap.size w (wr.setCell ⟨w.heap.size, i, none⟩ (.int .i64 1)) := by
  obtain ⟨h1, h2, h3, h4, h5⟩ := h
  refine ⟨?_, by rw [inB_snoc]; exact h2.set hi 1, ownsRow_setCell_below h4 (by show w.heap.size < w.heap.size + 2; omega) _, h5.setCell (by show w.heap.size ≤ w.heap.size; exact Nat.le_refl _) _⟩
  rw [World.cell?_setCell_other _ _ _ _ (by intro e; have := congrArg Addr.block e; simp at this)]
  exact h1
theorem OrdSt.grow {w : World} {n : Nat} {v v' : Value} {out : List Nat} {i : Nat} {w1 w2 : World} {o : Obj} (h1 : w1.cell? ⟨w.heap.size + 1, 0, none⟩ = some (.slice (some ⟨w.heap.size, 0, none⟩) n n)) (h2 : OwnI w1 w.heap.size n (inB (out ++ [i]))) (h3 : w.heap.size + 2 ≤ w1.heap.size) (h5 : Below w.heap.size w w1) (hv : ∀ k, v.ownBlock = some k → w.heap.size + 2 ≤ k)
    (hg : (w1.alloc o).grownBy w2 v.ownBlock) (hown : w2.ownsRow (w.heap.size + 2) 3 1 v' (out.length + 1) (ntV out ++ [.int .i64 (i : Int)])) : OrdSt w n v' (out ++ [i]) w2 := by
  have hbl : Below (w.heap.size + 2) w1 w2 := (Below.alloc (Below.refl _ _) h3 o).grown hg (by simp; omega) hv
  refine ⟨(hbl.cell (p := ⟨w.heap.size + 1, 0, none⟩) (by show w.heap.size + 1 < _; omega)).trans h1, ⟨Nat.lt_of_lt_of_le h2.1 hbl.size, fun j hj => ⟨(hbl.cell (p := ⟨w.heap.size, j, none⟩) (by show w.heap.size < _; omega)).trans (h2.2 j hj).1, (hbl.frozen (p := ⟨w.heap.size, j, none⟩) (by show w.heap.size < _; omega)).trans (h2.2 j hj).2⟩⟩, Nat.le_trans h3 hbl.size, ?_, h5.trans (hbl.mono (by omega))⟩
  rw [ntV_snoc, List.length_append]
  exact hown
theorem cells_at {w : World} {z : Nat} (hz : w.heap.size = z) (vs : List Value) (e : TypeId) : ∀ j u, vs[j]? = some u → (w.alloc (.cells vs.toArray e)).cell? ((⟨z, 0, none⟩ : Addr).add j) = some u := by
  subst hz; exact cells_here w vs e
def slen (v : Value) : Nat := match v with | .slice _ m _ => m | _ => 0
/-- Whether a task can't follow yet. -/
def Late0 (T : Plan) (out : List Nat) (i : Nat) : Prop := i ∈ out ∨ ∃ k, k < T.lc i ∧ T.to i k ∉ out
/-- What order answers. -/
def OrdR (T : Plan) (w : World) (e : Ending) (w' : World) : Prop := Below w.heap.size w w' ∧ ∃ out, Plan.Topo T out ∧ ((out.length = T.n ∧ ∃ v, e = .returned (.tuple #[v, .nilIface]) ∧ IntsL w' w.heap.size v out) ∨ (out.length < T.n ∧ Plan.Stuck T out ∧ e = .returned (.tuple #[.slice none 0 0, errV 14])))
theorem errV14 : errV 14 = .iface 25 (.int .i64 14) := rfl
theorem IntsL.low {w : World} {b c : Nat} {v : Value} {l : List Nat} (h : IntsL w c v l) (hb : b ≤ c) : IntsL w b v l := by
  obtain ⟨oa, cap, h1, h2, h3, h4⟩ := h
  refine ⟨oa, cap, h1, h2, h3, fun h0 => ?_⟩
  obtain ⟨g, h5, h6, h7⟩ := h4 h0
  exact ⟨g, h5, Nat.le_trans hb h6, h7⟩
set_option maxRecDepth 100000 in
set_option maxHeartbeats 4000000 in
theorem order_any (oa : Option Addr) (cap : Nat) (AL AU : Nat → Option Addr) (CL CU : Nat → Nat) (T : Plan) (w : World) (hn : T.n ≤ 60) (hok : ∀ i, i < T.n → Plan.TaskOk T i) (hR : PlanR w oa AL AU CL CU T) :
    Calls Tryd.prog 40 #[.slice oa T.n cap] w (OrdR T w) := by
  have HR := Lib.hid hR
  have HOK := Lib.hid hok
  clear hR hok
  obtain ⟨n, hnn⟩ : ∃ x, T.n = x := ⟨_, rfl⟩
  have HNN := Lib.hid hnn
  rw [hnn] at hn ⊢
  clear hnn
  obtain ⟨M, hM, hmake⟩ := make_ints n (by omega)
  have HM := Lib.hid hM
  clear hM
  obtain ⟨i0, hi0, hz0, hz1, hz2⟩ := info_parts int_info
  go_enter Tryd.func40, Tryd.ntmps40
  go_wp2_with fail
  have hSt : OrdSt w n (.slice none 0 0) [] ((w.alloc (.cells M 3)).alloc (.cells #[.slice (some ⟨w.heap.size, 0, none⟩) n n] 23)) :=
    ⟨by simp, (OwnI.new w n M _ HM.out).alloc _, by simp, (show World.ownsRow _ _ _ _ (.slice none 0 0) 0 [] from World.ownsRow_nil _ _ _ _), ((Below.refl _ _).alloc (Nat.le_refl _) _).alloc (by simp) _⟩
  have HS0 := Lib.hid hSt
  clear hSt hmake
  go_loopw [4] (fun v wr => ∃ (ob : Option Addr) (m cap2 : Nat) (out : List Nat), v = .slice ob m cap2 ∧ m ≤ n ∧ Hid (out.length = m ∧ OrdSt w n (.slice ob m cap2) out wr ∧ Plan.Topo T out)) (fun v _ => n - slen v)
  case atStart => exact ⟨none, 0, 0, [], rfl, by omega, Lib.hid ⟨rfl, HS0.out, Plan.Topo.nil T⟩⟩
  case round =>
    obtain ⟨ob, m, cap2, out, rfl, hm, HST⟩ := hrel
    obtain ⟨wA, rfl⟩ : ∃ wo : World, wo = wr := ⟨_, rfl⟩
    by_cases hlt : m < n
    · have hmb : (m : Int) < (n : Int) := by omega
      go_wp2_with fail
      go_loopw [6, 19] (fun x c wr => ∃ j : Nat, x = .int .i64 (-1) ∧ c = .int .i64 (j : Int) ∧ j ≤ n ∧ Hid (OrdSt w n (.slice ob m cap2) out wr) ∧ Hid (∀ i, i < j → Late0 T out i)) (fun _ c _ => n - (intOf c).toNat)
      case atStart => exact ⟨0, rfl, rfl, by omega, Lib.hid HST.out.2.1, Lib.hid fun i hi => absurd hi (Nat.not_lt_zero i)⟩
      case round =>
        obtain ⟨j, rfl, rfl, hj, HO, HN⟩ := hrel
        obtain ⟨wB, rfl⟩ : ∃ wo : World, wo = wr := ⟨_, rfl⟩
        by_cases hjn : j < n
        · have HB := Lib.hid HO.out.2.2.2.2
          have HRB := Lib.hid (HR.out.call HB.out)
          obtain ⟨a, rfl⟩ := HRB.out.1 (by rw [HNN.out]; omega)
          obtain ⟨c0, c1, c2, c3⟩ := HRB.out.at (show j < T.n by rw [HNN.out]; exact hjn)
          have HLK := Lib.hid (HRB.out.links (show j < T.n by rw [HNN.out]; exact hjn))
          obtain ⟨x1, x2, x3, _, _⟩ := HO.out
          have xz : w.heap.size + 1 < wB.heap.size := by omega
          have xy : w.heap.size < wB.heap.size := by omega
          have x4 := (x2.2 j hjn).1
          have HTK := Lib.hid (HOK.out j (by rw [HNN.out]; exact hjn))
          have hlc := HTK.out.head.2.2.1
          have HX2 := Lib.hid x2
          clear x2
          obtain ⟨L, hL⟩ : ∃ x, T.len j = x := ⟨_, rfl⟩
          obtain ⟨Nb, hNb⟩ : ∃ x, T.nb j = x := ⟨_, rfl⟩
          obtain ⟨lc, hlcE⟩ : ∃ x, T.lc j = x := ⟨_, rfl⟩
          obtain ⟨uc, hucE⟩ : ∃ x, T.uc j = x := ⟨_, rfl⟩
          obtain ⟨al, hal⟩ : ∃ x, AL j = x := ⟨_, rfl⟩
          obtain ⟨au, hau⟩ : ∃ x, AU j = x := ⟨_, rfl⟩
          obtain ⟨cl, hcl⟩ : ∃ x, CL j = x := ⟨_, rfl⟩
          obtain ⟨cu, hcu⟩ : ∃ x, CU j = x := ⟨_, rfl⟩
          rw [hL] at c0
          rw [hNb] at c1
          rw [hal, hlcE, hcl] at c2
          rw [hau, hucE, hcu] at c3
          rw [hlcE] at hlc
          have HAL := Lib.hid hal
          have HLC := Lib.hid hlcE
          clear hL hNb hal hlcE hcl hau hucE hcu
          have HOA := Lib.hid (HO.out.alloc (.cells #[.int .i64 L, .int .i64 Nb, .slice al lc cl, .slice au uc cu] 34))
          by_cases hin : j ∈ out
          · have e1 : inB out j = 1 := if_pos hin
            rw [e1] at x4
            have HIN := Lib.hid hin
            clear hin e1
            go_wp2_with fail
            go_roundw
            case rel =>
              refine ⟨j + 1, rfl, by go_num, by omega, HOA, Lib.hid fun i hi => ?_⟩
              by_cases e : i = j
              · subst e; exact .inl HIN.out
              · exact HN.out i (by omega)
            case measure => simp [intOf]; omega
          · have e1 : inB out j = 0 := if_neg hin
            rw [e1] at x4
            have HIN := Lib.hid hin
            clear hin e1
            obtain ⟨b, hb⟩ : ∃ b : Bool, b = true ↔ ∃ k, k < lc ∧ decide (inB out (T.lt j k).toNat = 0) = true := by
              by_cases h : ∃ k, k < lc ∧ decide (inB out (T.lt j k).toNat = 0) = true
              · exact ⟨true, Iff.intro (fun _ => h) fun _ => rfl⟩
              · exact ⟨false, Iff.intro (fun h2 => by cases h2) fun h2 => absurd h2 h⟩
            have HBB := Lib.hid hb
            clear hb
            cases b with
            | true =>
              go_wp2_with (go_at_call 48; refine (linkContains_any al lc cl (T.lt j) (T.lk j) (T.lg j) 52 #[.pointer (some ⟨w.heap.size + 1, 0, none⟩)] (fun k => decide (inB out (T.lt j k).toNat = 0)) true _ (by omega) (by have := HLK.out; rw [HAL.out, HLC.out] at this; exact this.call (Below.alloc (Below.refl _ _) (Nat.le_refl _) _)) enter_order1 (fun k hk w' hb' => by have h1 := HOA.out.call hb'; have h2 := (HTK.out.link k (by rw [HLC.out]; exact hk)).1.1; rw [HNN.out] at h2; exact order1_any _ _ _ _ _ n _ w' h1.1 h1.2.1 h2.1 h2.2) HBB.out).mono ?_; rintro e w2 ⟨rfl, hb2⟩; have HO2 := Lib.hid (HOA.out.call hb2); clear hb2)
              go_roundw
              case rel =>
                refine ⟨j + 1, rfl, by go_num, by omega, HO2, Lib.hid fun i hi => ?_⟩
                by_cases e : i = j
                · subst e
                  obtain ⟨k, hk, hk2⟩ := HBB.out.1 trivial
                  refine .inr ⟨k, by rw [HLC.out]; exact hk, fun hm => ?_⟩
                  have h3 : inB out (T.lt i k).toNat = 0 := of_decide_eq_true hk2
                  have h4 : inB out (T.lt i k).toNat = 1 := if_pos hm
                  rw [h3] at h4
                  cases h4
                · exact HN.out i (by omega)
              case measure => simp [intOf]; omega
            | false =>
              go_wp2_with (first
                | (go_at_call 48; refine (linkContains_any al lc cl (T.lt j) (T.lk j) (T.lg j) 52 #[.pointer (some ⟨w.heap.size + 1, 0, none⟩)] (fun k => decide (inB out (T.lt j k).toNat = 0)) false _ (by omega) (by have := HLK.out; rw [HAL.out, HLC.out] at this; exact this.call (Below.alloc (Below.refl _ _) (Nat.le_refl _) _)) enter_order1 (fun k hk w' hb' => by have h1 := HOA.out.call hb'; have h2 := (HTK.out.link k (by rw [HLC.out]; exact hk)).1.1; rw [HNN.out] at h2; exact order1_any _ _ _ _ _ n _ w' h1.1 h1.2.1 h2.1 h2.2) HBB.out).mono ?_; rintro e w2 ⟨rfl, hb2⟩; have HO2 := Lib.hid (HOA.out.call hb2); clear hb2; obtain ⟨y1, y2, y3, _, _⟩ := HO2.out; have y4 := (y2.2 j hjn).1; have y5 := (y2.2 j hjn).2; have HMK := Lib.hid (HO2.out.mark hjn); have HOW := Lib.hid HO2.out.2.2.2.1.lt; clear y2)
                | (at_builtin; refine wpList_append_own _ rfl (.tmp 44) (.tmp 46) 23 rfl (w.heap.size + 2) 3 i0 (.int .i64 0) 1 8 Tryd.underlying23 hi0 hz0 hz1 hz2 rfl (by decide) _ m (ntV out) rfl (by have h9 := HMK.out.2.2.1; rw [HST.out.1] at h9; exact h9.alloc _) _ 1 1 [.int .i64 (j : Int)] rfl rfl (cells_at (by simp [World.setCell]) _ _) (by simp [Value.oneCell']) (by unfold maxLen; omega) (by omega) (by simp; omega) ?_; intro v3 w3 hown hgrow _))
              obtain ⟨g3, c3, hv3, _, _⟩ := hown.form (by omega)
              subst hv3
              have hS3 : OrdSt w n (.slice (some ⟨g3, 0, none⟩) (m + 1) c3) (out ++ [j]) w3 := OrdSt.grow HMK.out.1 HMK.out.2.1 (by simp; omega) HMK.out.2.2.2 (fun k hk => (HOW.out k hk).1) hgrow (by rw [HST.out.1]; exact hown)
              have HS3 := Lib.hid hS3
              clear hS3 hown hgrow
              go_wp2_with fail
              go_roundw
              case rel =>
                refine ⟨_, m + 1, c3, out ++ [j], rfl, by omega, Lib.hid ⟨by have := HST.out.1; simp; omega, HS3.out, HST.out.2.2.snoc (by rw [HNN.out]; exact hjn) HIN.out fun k hk => ?_⟩⟩
                refine Classical.byContradiction fun hno => ?_
                have h4 : inB out (T.lt j k).toNat = 0 := if_neg hno
                have := HBB.out.2 ⟨k, by rw [← HLC.out]; exact hk, decide_eq_true h4⟩
                simp at this
              case measure => simp [slen]; omega
        · obtain rfl : n = j := by omega
          go_wp2_with fail
          go_ret2
          exact ⟨HO.out.2.2.2.2, out, HST.out.2.2, .inr ⟨by have := HST.out.1; rw [HNN.out]; omega, ⟨HST.out.2.2, fun i hi hio => (HN.out i (by rw [HNN.out] at hi; exact hi)).resolve_left hio⟩, rfl⟩⟩
    · obtain rfl : n = m := by omega
      go_wp2_with fail
      go_ret2
      exact ⟨HST.out.2.1.2.2.2.2, out, HST.out.2.2, .inl ⟨by rw [HNN.out]; exact HST.out.1, _, rfl, (IntsL.own HST.out.2.1.2.2.2.1).low (by omega)⟩⟩
end Go.Proofs.YthhaopdimilmcaaDoor
