/- The document's Member and order. -/
import Derived.Test.YthhaopdimilmcaaDoorPlnL
namespace Go.Proofs.YthhaopdimilmcaaDoor
open Go.RowKit
set_option maxHeartbeats 2000000 in
theorem member_any (ob : Option Addr) (m cap b : Nat) (l : List Nat) (x : Nat) (w : World) (hm : m ≤ 1000000) (hl : l.length = m) (h : IntsL w b (.slice ob m cap) l) :
    Calls Tryd.prog 38 #[.slice ob m cap, .int .i64 (x : Int)] w fun e w' => e = .returned (.bool (decide (x ∈ l))) ∧ w' = w := by
  have HL := Lib.hid hl
  have H := Lib.hid h
  clear hl h
  go_enter Tryd.func38, Tryd.ntmps38
  go_wp2_with fail
  go_loop [5] (fun c => ∃ k : Nat, c = .int .i64 (k : Int) ∧ k ≤ m ∧ Hid (∀ j, j < k → l.getD j 0 ≠ x)) (fun c => m - (intOf c).toNat)
  case atStart => exact ⟨0, rfl, by omega, Lib.hid fun j hj => absurd hj (Nat.not_lt_zero j)⟩
  case round =>
    obtain ⟨k, rfl, hk, HK⟩ := hrel
    by_cases hkm : k < m
    · obtain ⟨g, rfl, hc⟩ := H.out.at (show k < l.length by rw [HL.out]; exact hkm)
      obtain ⟨y, hy⟩ : ∃ y, l.getD k 0 = y := ⟨_, rfl⟩
      rw [hy] at hc
      have HY := Lib.hid hy
      clear hy
      by_cases hxy : y = x
      · subst hxy
        go_wp2_with fail
        go_ret
        refine ⟨retB (Eq.symm (decide_eq_true ?_)), rfl⟩
        rw [← HY.out]
        have hk2 : k < l.length := by rw [HL.out]; exact hkm
        have e : l.getD k 0 = l[k] := by simp [List.getD, hk2]
        rw [e]; exact List.getElem_mem hk2
      · have hb : ((y : Int) == (x : Int)) = false := by simp; omega
        have HXY := Lib.hid hxy
        clear hxy
        go_wp2_with fail
        go_round
        case rel =>
          refine ⟨k + 1, by go_num, by omega, Lib.hid fun j hj => ?_⟩
          by_cases e : j = k
          · subst e; rw [HY.out]; exact HXY.out
          · exact HK.out j (by omega)
        case measure => simp [intOf]; omega
    · obtain rfl : m = k := by omega
      go_wp2_with fail
      go_ret
      refine ⟨retB (Eq.symm (decide_eq_false fun hmem => ?_)), rfl⟩
      obtain ⟨j, h1, h2⟩ := List.getElem_of_mem hmem
      exact HK.out j (by rw [← HL.out]; exact h1) (by simp [List.getD, h1, h2])
def omeas (n : Nat) (v g : Value) : Nat := match g with | .bool true => n - slen v + 1 | _ => 0
/-- What the document's order answers. -/
def ROrdR (T : Plan) (w : World) (e : Ending) (w' : World) : Prop := Below w.heap.size w w' ∧ ∃ v out, e = .returned v ∧ Plan.Stuck T out ∧ IntsL w' w.heap.size v out
set_option maxRecDepth 100000 in
set_option maxHeartbeats 8000000 in
theorem refOrder_any (oa : Option Addr) (cap : Nat) (AL AU : Nat → Option Addr) (CL CU : Nat → Nat) (T : Plan) (n : Nat) (w : World) (hnn : T.n = n) (hn : n ≤ 60) (hok : ∀ i, i < n → Plan.TaskOk T i) (hR : PlanR w oa AL AU CL CU T) :
    Calls Tryd.prog 34 #[.slice oa n cap] w (ROrdR T w) := by
  have HR := Lib.hid hR
  have HOK := Lib.hid hok
  have HNN := Lib.hid hnn
  clear hR hok hnn
  obtain ⟨i0, hi0, hz0, hz1, hz2⟩ := info_parts int_info
  go_enter Tryd.func34, Tryd.ntmps34
  go_wp2_with fail
  go_loopw [3, 4] (fun v g wr => ∃ (ob : Option Addr) (m c2 : Nat) (ag : Bool) (out : List Nat), v = .slice ob m c2 ∧ g = .bool ag ∧ m ≤ n ∧ Hid (out.length = m ∧ Plan.Topo T out) ∧ Hid (wr.ownsRow w.heap.size 3 1 (.slice ob m c2) m (ntV out)) ∧ Hid (Below w.heap.size w wr) ∧ Hid (ag = false → Plan.Stuck T out)) (fun v g _ => omeas n v g)
  case atStart => exact ⟨none, 0, 0, true, [], rfl, rfl, by omega, Lib.hid ⟨rfl, Plan.Topo.nil T⟩, Lib.hid (World.ownsRow_nil _ _ _ _), Lib.hid (Below.refl _ _), Lib.hid fun h => by cases h⟩
  case round =>
    obtain ⟨ob0, m0, c0, ag, out0, rfl, rfl, hm0, HM0, HW0, HB0, HS0⟩ := hrel
    obtain ⟨wA, rfl⟩ : ∃ wo : World, wo = wr := ⟨_, rfl⟩
    cases ag with
    | false =>
      go_wp2_with fail
      go_ret
      refine ⟨HB0.out, _, out0, rfl, HS0.out trivial, IntsL.own (by rw [HM0.out.1]; exact HW0.out)⟩
    | true =>
      go_wp2_with fail
      go_loopw [3, 4, 5] (fun v g c wr => ∃ (ob : Option Addr) (m c2 : Nat) (ag : Bool) (out : List Nat) (i : Nat), v = .slice ob m c2 ∧ g = .bool ag ∧ c = .int .i64 (i : Int) ∧ i ≤ n ∧ m ≤ n ∧ Hid (out.length = m ∧ Plan.Topo T out) ∧ Hid (wr.ownsRow w.heap.size 3 1 (.slice ob m c2) m (ntV out)) ∧ Hid (Below w.heap.size w wr) ∧ Hid (ag = true → m0 < m) ∧ Hid (m0 ≤ m) ∧ Hid (ag = false → ∀ j, j < i → Late0 T out j)) (fun _ _ c _ => n - (intOf c).toNat)
      case atStart => exact ⟨ob0, m0, c0, false, out0, 0, rfl, rfl, rfl, by omega, hm0, HM0, HW0, HB0, Lib.hid fun h => (by cases h), Lib.hid (Nat.le_refl _), Lib.hid fun _ j hj => absurd hj (Nat.not_lt_zero j)⟩
      case round =>
        clear HM0 HW0 HB0 HS0
        obtain ⟨ob, m, c2, ag, out, i, rfl, rfl, rfl, hi, hm, HM, HW, HB, HG, HLE, HLT⟩ := hrel
        obtain ⟨wB, rfl⟩ : ∃ wo : World, wo = wr := ⟨_, rfl⟩
        by_cases hin : i < n
        · have HIN := Lib.hid (show i < T.n by rw [HNN.out]; exact hin)
          have HRB := Lib.hid (HR.out.call HB.out)
          obtain ⟨a, rfl⟩ := HRB.out.1 (by rw [HNN.out]; omega)
          obtain ⟨-, -, t2, -⟩ := HRB.out.at HIN.out
          have hlcb := (HOK.out i hin).head.2.2.1
          obtain ⟨lc, hlcE⟩ : ∃ x, T.lc i = x := ⟨_, rfl⟩
          obtain ⟨al, hal⟩ : ∃ x, AL i = x := ⟨_, rfl⟩
          obtain ⟨cl, hcl⟩ : ∃ x, CL i = x := ⟨_, rfl⟩
          rw [hal, hlcE, hcl] at t2
          rw [hlcE] at hlcb
          have HE := Lib.hid (And.intro hlcE hal)
          have i1 : (0 : Int) ≤ (i : Int) := by omega
          have i2 : (i : Int) < (n : Int) := by omega
          have HIL := Lib.hid (show IntsL wB w.heap.size (.slice ob m c2) out from IntsL.own (by rw [HM.out.1]; exact HW.out))
          clear hlcE hal hcl
          go_wp2_with (go_at_call 38; refine (member_any ob m c2 w.heap.size out i wB (by omega) HM.out.1 HIL.out).mono ?_; rintro e w2 ⟨rfl, hw2⟩; obtain rfl := hw2.symm; clear hw2)
          clear t2
          go_loopw [6, 26] (fun b c wr => ∃ (x : Bool) (k : Nat), b = .bool x ∧ c = .int .i64 (k : Int) ∧ k ≤ lc ∧ Hid (x = true ↔ i ∉ out ∧ ∀ j, j < k → T.to i j ∈ out) ∧ Hid (Below wB.heap.size wB wr)) (fun _ c _ => lc - (intOf c).toNat)
          case atStart => exact ⟨_, 0, rfl, rfl, by omega, Lib.hid (by simp), Lib.hid (Below.refl _ _)⟩
          case round =>
            obtain ⟨x, k, rfl, rfl, hk, HX, HC⟩ := hrel
            obtain ⟨wC, rfl⟩ : ∃ wo : World, wo = wr := ⟨_, rfl⟩
            by_cases hkl : k < lc
            · have HKL := Lib.hid (show k < T.lc i by rw [HE.out.1]; exact hkl)
              have hLK := (HRB.out.call HC.out).links HIN.out
              rw [HE.out.1, HE.out.2] at hLK
              obtain ⟨b, rfl⟩ := hLK.1 (by omega)
              obtain ⟨d0, d1, d2⟩ := hLK.at hkl
              clear hLK
              have hto : T.lt i k = (T.to i k : Int) := by
                have h1 := ((HOK.out i hin).link k HKL.out).1.1
                unfold Plan.to; omega
              rw [hto] at d0
              obtain ⟨z, hz⟩ : ∃ x, T.to i k = x := ⟨_, rfl⟩
              obtain ⟨kk, hkk⟩ : ∃ x, T.lk i k = x := ⟨_, rfl⟩
              obtain ⟨gg, hgg⟩ : ∃ x, T.lg i k = x := ⟨_, rfl⟩
              rw [hz] at d0
              rw [hkk] at d1
              rw [hgg] at d2
              have HZ := Lib.hid hz
              have HCA := Lib.hid (HC.out.alloc HC.out.size (.cells #[.int .i64 (z : Int), .int .i64 kk, .int .i64 gg] 43))
              clear hz hkk hgg hto
              cases x with
              | false =>
                go_wp2_with fail
                go_roundw
                case rel =>
                  refine ⟨false, k + 1, rfl, by go_num, by omega, Lib.hid ⟨fun h => (by cases h), fun ⟨h1, h2⟩ => ?_⟩, HCA⟩
                  exact HX.out.2 ⟨h1, fun j hj => h2 j (by omega)⟩
                case measure => simp [intOf]; omega
              | true =>
                have HIL2 := Lib.hid ((HIL.out.call HC.out).call (Below.alloc (Below.refl _ _) (Nat.le_refl _) (.cells #[.int .i64 (z : Int), .int .i64 kk, .int .i64 gg] 43)))
                go_wp2_with (go_at_call 38; refine (member_any ob m c2 w.heap.size out z _ (by omega) HM.out.1 HIL2.out).mono ?_; rintro e w3 ⟨rfl, hw3⟩; obtain rfl := hw3.symm; clear hw3)
                go_roundw
                case rel =>
                  refine ⟨_, k + 1, rfl, by go_num, by omega, Lib.hid ⟨fun h => ?_, fun ⟨_, h2⟩ => ?_⟩, HCA⟩
                  · obtain ⟨h1, h2⟩ := HX.out.1 trivial
                    refine ⟨h1, fun j hj => ?_⟩
                    by_cases e : j = k
                    · subst e; rw [HZ.out]; simpa using h
                    · exact h2 j (by omega)
                  · have := h2 k (by omega)
                    rw [HZ.out] at this
                    simpa using this
                case measure => simp [intOf]; omega
            · obtain rfl : lc = k := by omega
              have HWC := Lib.hid (own_call HW.out HC.out)
              have HBC := Lib.hid (thenB HB.out HC.out)
              have hbz := HBC.out.size
              cases x with
              | false =>
                go_wp2_with fail
                go_roundw
                case rel =>
                  refine ⟨ob, m, c2, ag, out, i + 1, rfl, rfl, by go_num, by omega, hm, HM, HWC, HBC, HG, HLE, Lib.hid fun h j hj => ?_⟩
                  by_cases e : j = i
                  · subst e
                    refine Classical.byContradiction fun hno => ?_
                    have h1 : j ∉ out := fun h => hno (.inl h)
                    have h2 : ∀ k, k < lc → T.to j k ∈ out := fun k hk => Classical.byContradiction fun hn => hno (.inr ⟨k, by rw [HE.out.1]; exact hk, hn⟩)
                    have := HX.out.2 ⟨h1, h2⟩
                    cases this
                  · exact HLT.out h j (by omega)
                case measure => simp [intOf]; omega
              | true =>
                obtain ⟨hx1, hx2⟩ := HX.out.1 rfl
                have hT2 := HM.out.2.snoc HIN.out hx1 (by rw [HE.out.1]; exact hx2)
                have hl2 := hT2.length_le
                rw [List.length_append, HM.out.1, HNN.out] at hl2
                have hl3 : m + 1 ≤ n := hl2
                have HT2 := Lib.hid hT2
                clear hx1 hx2 hT2 hl2
                go_wp2_with (at_builtin; refine wpList_append_own _ rfl (.tmp 39) (.tmp 41) 23 rfl w.heap.size 3 i0 (.int .i64 0) 1 8 Tryd.underlying23 hi0 hz0 hz1 hz2 rfl (by decide) _ m (ntV out) rfl (HWC.out.alloc _) _ 1 1 [.int .i64 (i : Int)] rfl rfl (cells_here _ _ _) (by simp [Value.oneCell']) (by unfold maxLen; omega) (by omega) (by simp; omega) ?_; intro v8 w8 hown hgrow _)
                obtain ⟨g8, c8, hv8, _, _⟩ := hown.form (by omega)
                subst hv8
                have hlt8 := HWC.out.lt
                have HB8 := Lib.hid ((HBC.out.alloc hbz (.cells #[.int .i64 (i : Int)] 3)).grown hgrow (by simp; omega) (fun j hj => (hlt8 j hj).1))
                have HW8 := Lib.hid (show w8.ownsRow w.heap.size 3 1 (.slice (some ⟨g8, 0, none⟩) (m + 1) c8) (m + 1) (ntV (out ++ [i])) by rw [ntV_snoc]; exact hown)
                clear hown hgrow hlt8
                go_wp2_with fail
                go_roundw
                case rel => exact ⟨_, m + 1, c8, true, out ++ [i], i + 1, rfl, rfl, by go_num, by omega, hl3, Lib.hid ⟨by rw [List.length_append, HM.out.1]; rfl, HT2.out⟩, HW8, HB8, Lib.hid fun _ => by have := HLE.out; omega, Lib.hid (by have := HLE.out; omega), Lib.hid fun h => by cases h⟩
                case measure => simp [intOf]; omega
        · obtain rfl : n = i := by omega
          go_wp2_with fail
          go_roundw
          case rel => exact ⟨ob, m, c2, ag, out, rfl, rfl, hm, HM, HW, HB, Lib.hid fun h => ⟨HM.out.2, fun j hj hjo => (HLT.out h j (by rw [← HNN.out]; exact hj)).resolve_left hjo⟩⟩
          case measure =>
            cases ag with
            | false => simp [omeas]
            | true => have := HG.out rfl; simp [omeas, slen]; omega
end Go.Proofs.YthhaopdimilmcaaDoor
