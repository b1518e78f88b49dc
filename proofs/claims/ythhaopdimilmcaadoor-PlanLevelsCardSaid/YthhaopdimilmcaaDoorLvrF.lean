/- The law PlanLevels. -/
import Derived.Test.YthhaopdimilmcaaDoorLvrE
namespace Go.Proofs.YthhaopdimilmcaaDoor
open Go.RowKit
theorem level_agree {T : Plan} {hn : Nat} {hv : Nat → Int} {b b' : Nat} {v v' : Value} {x x' : Int} {w : World} (hn6 : T.n ≤ 1000000) (h : LevelV T hn hv b v x w) (h' : LevelV T hn hv b' v' x' w) : x = x' ∧ SameS w v v' := by
  have hnil : SameS w (.slice none 0 0) (.slice none 0 0) := ⟨0, b, b', fun _ => 0, fun _ => 0, fun _ => 0, fun _ => 0, by omega, nil_spans _ _ _ _, nil_spans _ _ _ _, fun _ _ => rfl, fun _ _ => rfl⟩
  rcases h with ⟨h1, rfl, rfl⟩ | ⟨h1, h2, rfl, rfl⟩ | ⟨h1, h2, h3, rfl, rfl⟩ | ⟨h1, h2, h3, rfl, B, f, t, z, s, q, rfl, hB, hO, hF, hL, hV, _⟩
  · rcases h' with ⟨g1, rfl, rfl⟩ | ⟨g1, _⟩ | ⟨g1, _⟩ | ⟨g1, _⟩
    · exact ⟨rfl, hnil⟩
    · exact absurd g1 h1
    · exact absurd g1 h1
    · exact absurd g1 h1
  · rcases h' with ⟨g1, _⟩ | ⟨g1, g2, rfl, rfl⟩ | ⟨g1, g2, _⟩ | ⟨g1, g2, _⟩
    · exact absurd h1 g1
    · exact ⟨rfl, hnil⟩
    · exact absurd g2 h2
    · exact absurd g2 h2
  · rcases h' with ⟨g1, _⟩ | ⟨g1, g2, _⟩ | ⟨g1, g2, g3, rfl, rfl⟩ | ⟨g1, g2, g3, _⟩
    · exact absurd h1 g1
    · exact absurd h2 g2
    · exact ⟨rfl, hnil⟩
    · exact absurd g3 h3
  · rcases h' with ⟨g1, _⟩ | ⟨g1, g2, _⟩ | ⟨g1, g2, g3, _⟩ | ⟨g1, g2, g3, rfl, B', f', t', z', s', q', rfl, hB', hO', hF', hL', hV', _⟩
    · exact absurd h1 g1
    · exact absurd h2 g2
    · exact absurd h3 g3
    · have hok := Plan.chk_ok h1
      rw [Plan.last_congr (T := T) T.n (Plan.Fix.unique hok.full hF' hF)] at hL'
      obtain ⟨e1, e2, _⟩ := Lev.one (hL.unique hL') hV hV'
      subst e1 e2
      exact ⟨rfl, T.n, b, b', f, t, f, t, hn6, own_spans hB hO, own_spans hB' hO', fun _ _ => rfl, fun _ _ => rfl⟩
set_option maxRecDepth 100000 in
set_option maxHeartbeats 8000000 in
theorem planLevels_walk (oa : Option Addr) (cap : Nat) (AL AU : Nat → Option Addr) (CL CU : Nat → Nat) (T : Plan) (n : Nat) (oh : Option Addr) (hn hc : Nat) (hv : Nat → Int) (w : World) (hT : ErrT w) (hnn : T.n = n) (hn0 : n ≤ 9223372036854775807) (hlc : ∀ i, i < n → T.lc i ≤ 9223372036854775807 ∧ T.uc i ≤ 9223372036854775807) (hR : PlanR w oa AL AU CL CU T) (hhn : hn ≤ 9223372036854775807) (hH : IntsR w oh hn hv) :
    Calls Tryd.prog 6 #[.slice oa n cap, .slice oh hn hc] w fun e w' => e = .returned (.bool true) ∧ Below w.heap.size w w' := by
  have HT := Lib.hid hT
  have HR := Lib.hid hR
  have HH := Lib.hid hH
  have HLC := Lib.hid hlc
  have HNN := Lib.hid hnn
  clear hT hR hH hlc hnn
  by_cases hbig : 200 < n
  · have hb : decide ((200 : Int) < (n : Int)) = true := decide_eq_true (by omega)
    go_enter Tryd.func6, Tryd.ntmps6
    go_wp2_with fail
    go_ret
    exact ⟨rfl, Below.refl _ _⟩
  have hb : decide ((200 : Int) < (n : Int)) = false := decide_eq_false (by omega)
  by_cases hbig2 : 200 < hn
  · have hb2 : decide ((200 : Int) < (hn : Int)) = true := decide_eq_true (by omega)
    go_enter Tryd.func6, Tryd.ntmps6
    go_wp2_with fail
    go_ret
    exact ⟨rfl, Below.refl _ _⟩
  have hb2 : decide ((200 : Int) < (hn : Int)) = false := decide_eq_false (by omega)
  go_enter Tryd.func6, Tryd.ntmps6
  go_wp2_with fail
  refine (plainLevel_any oa cap AL AU CL CU T n oh hn hc hv w HNN.out HT.out hn0 HLC.out (by omega) HR.out HH.out).mono ?_
  rintro e w1 ⟨v, x, rfl, hV, hb1⟩
  have HV := Lib.hid hV
  have HB1 := Lib.hid hb1
  clear hb1 hV
  go_wp2_with fail
  refine (refLevel_any oa cap AL AU CL CU T n oh hn hc hv w1 HNN.out hn0 HLC.out (by omega) (HR.out.call HB1.out) (HH.out.call HB1.out)).mono ?_
  rintro e w2 ⟨v', x', rfl, hV', hb2'⟩
  obtain ⟨rfl, hS⟩ := level_agree (by rw [HNN.out]; omega) (HV.out.call hb2') hV'
  have HB2 := Lib.hid (thenB HB1.out hb2')
  obtain ⟨m, b, b', f, t, f', t', hm6, h1, h2, h3, h4⟩ := hS
  have hlist := listSpan_same v v' m b b' f t f' t' w2 hm6 h1 h2 h3 h4
  have hxx : (x == x) = true := by simp
  clear hV' hb2' h1 h2 h3 h4 HV
  go_wp2_with fail
  refine hlist.mono ?_
  clear hlist
  rintro e w3 ⟨rfl, hb3⟩
  have HB3 := Lib.hid (thenB HB2.out hb3)
  clear hb3
  go_wp2_with fail
  go_ret
  exact ⟨rfl, HB3.out⟩
end Go.Proofs.YthhaopdimilmcaaDoor
