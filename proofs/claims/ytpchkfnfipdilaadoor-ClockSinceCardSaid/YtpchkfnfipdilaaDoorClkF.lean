/- Adding a period to a time: the program's. -/
import Derived.Test.YtpchkfnfipdilaaDoorClkC
namespace Go.Proofs.YtpchkfnfipdilaaDoor
open Go.RowKit
def AddPost (t Y M W D S : Int) (er : Int → Value) (w : World) (e : Ending) (w' : World) : Prop := ∃ r x, e = .returned (.tuple #[.int .i64 r, er x]) ∧ AddR t Y M W D S r x ∧ Below w.heap.size w w'
set_option maxRecDepth 100000 in
set_option maxHeartbeats 4000000 in
theorem add_all (t Y M W D S : Int) (w : World) (hr : RomanT w) : Calls Tryd.prog 29 #[.int .i64 t, .agg #[.int .i64 Y, .int .i64 M, .int .i64 W, .int .i64 D, .int .i64 S]] w (AddPost t Y M W D S errV w) := by
  have HR := Lib.hid hr; clear hr
  go_enter Tryd.func29, Tryd.ntmps29
  go_wp2_with fail
  have hc : ∀ i, i < 5 → ((w.alloc (.cells #[.int .i64 Y, .int .i64 M, .int .i64 W, .int .i64 D, .int .i64 S] 38)).alloc (.cells #[.int .i64 Y, .int .i64 M, .int .i64 W, .int .i64 D, .int .i64 S] 3)).cell? ⟨w.heap.size + 1, i, none⟩ = some (.int .i64 (pf Y M W D S i)) :=
    fun i hi => by
      have := five_cells Y M W D S (w.alloc (.cells #[.int .i64 Y, .int .i64 M, .int .i64 W, .int .i64 D, .int .i64 S] 38)) 3 i hi
      rw [World.size_alloc] at this
      exact this
  refine (sum_all5 (pf Y M W D S) _ _ _ hc).mono ?_; rintro en w' ⟨v, x, rfl, hx, rfl⟩
  clear hc
  rcases hx with ⟨rfl, hs⟩ | ⟨rfl, hs⟩
  · rw [errV_nil]
    have HS := Lib.hid hs
    obtain ⟨⟨a1, a2⟩, ⟨b1, b2⟩, ⟨c1, c2⟩, ⟨d1, d2⟩, ⟨e1, e2⟩⟩ := small_iff hs
    clear hs
    rcases loc_ways t with h | ⟨h1, h2⟩
    · have HE := Lib.hid (loc_out h)
      have HH := Lib.hid h; clear h
      go_wp2_with fail
      refine (split_all _ _).mono ?_; rintro e w' ⟨rfl, rfl⟩
      rw [HE.out.1, HE.out.2.1, HE.out.2.2, errV_hit (show (4 : Int) ≠ 0 by decide)]
      go_wp2_with fail
      go_ret2
      exact ⟨0, 4, rfl, .inl ⟨.inr HH.out, rfl, rfl⟩, ((Below.refl _ _).alloc (by omega) _).alloc (by simp) _⟩
    · have HE := Lib.hid (loc_in h1 h2)
      have hq := day_of_loc h1 h2
      have hts : 0 ≤ t % 86400 ∧ t % 86400 < 86400 := by omega
      obtain ⟨Q, hQ0⟩ : ∃ Q, t / 86400 = Q := ⟨_, rfl⟩
      obtain ⟨T, hT0⟩ : ∃ T, t % 86400 = T := ⟨_, rfl⟩
      rw [hQ0] at hq
      rw [hT0] at hts
      have HQ := Lib.hid (And.intro hQ0 hT0); clear hQ0 hT0
      have HH := Lib.hid (And.intro h1 h2); clear h1 h2
      go_wp2_with fail
      refine (split_all _ _).mono ?_; rintro e w' ⟨rfl, rfl⟩
      rw [HE.out.1, HE.out.2.1, HE.out.2.2, errV_nil, HQ.out.1, HQ.out.2]
      by_cases hYM : Y = 0 ∧ M = 0
      · obtain ⟨rfl, rfl⟩ := hYM
        have HMK : ∀ r x, AddF Q T W D S r x → AddR t 0 0 W D S r x := fun r x hf => .inr ⟨HS.out, HH.out.1, HH.out.2, Q, 0, .inl ⟨rfl, rfl, HQ.out.1.symm, rfl⟩, .inr ⟨rfl, by rw [HQ.out.2]; exact hf⟩⟩
        rcases (show Q + (7 * W + D) < -2000000000000 ∨ (¬ Q + (7 * W + D) < -2000000000000 ∧ 2000000000000 < Q + (7 * W + D)) ∨ (¬ Q + (7 * W + D) < -2000000000000 ∧ ¬ 2000000000000 < Q + (7 * W + D) ∧ Q + (7 * W + D) < -4000000) ∨ (¬ Q + (7 * W + D) < -2000000000000 ∧ ¬ 2000000000000 < Q + (7 * W + D) ∧ ¬ Q + (7 * W + D) < -4000000 ∧ 4000000 < Q + (7 * W + D)) ∨ (-4000000 ≤ Q + (7 * W + D) ∧ Q + (7 * W + D) ≤ 4000000) by omega) with g | ⟨g1, g⟩ | ⟨g1, g2, g⟩ | ⟨g1, g2, g3, g⟩ | ⟨g1, g2⟩
        · go_wp2_with fail
          go_ret2
          exact ⟨0, 4, rfl, HMK _ _ (.inr ⟨fun h => by unfold AddOk at h; omega, rfl, rfl⟩), ((Below.refl _ _).alloc (by omega) _).alloc (by simp) _⟩
        · go_wp2_with fail
          go_ret2
          exact ⟨0, 4, rfl, HMK _ _ (.inr ⟨fun h => by unfold AddOk at h; omega, rfl, rfl⟩), ((Below.refl _ _).alloc (by omega) _).alloc (by simp) _⟩
        · go_wp2_with fail
          go_ret2
          exact ⟨0, 4, rfl, HMK _ _ (.inr ⟨fun h => by unfold AddOk at h; omega, rfl, rfl⟩), ((Below.refl _ _).alloc (by omega) _).alloc (by simp) _⟩
        · go_wp2_with fail
          go_ret2
          exact ⟨0, 4, rfl, HMK _ _ (.inr ⟨fun h => by unfold AddOk at h; omega, rfl, rfl⟩), ((Below.refl _ _).alloc (by omega) _).alloc (by simp) _⟩
        · rcases loc_ways ((Q + (7 * W + D)) * 86400 + T + S) with h | ⟨h1, h2⟩
          · have hb : (decide (-345600000000 ≤ (Q + (7 * W + D)) * 86400 + T + S) && decide ((Q + (7 * W + D)) * 86400 + T + S ≤ 345600086399)) = false := by simp; omega
            have HH2 := Lib.hid h; clear h
            go_wp2_with fail
            refine (clkThere_any _ _).mono ?_; rintro e w' ⟨rfl, rfl⟩
            rw [hb]
            go_wp2_with fail
            go_ret2
            exact ⟨0, 4, rfl, HMK _ _ (.inr ⟨fun h => by have h5 := HH2.out; unfold AddOk addN at h; omega, rfl, rfl⟩), ((Below.refl _ _).alloc (by omega) _).alloc (by simp) _⟩
          · have hb : (decide (-345600000000 ≤ (Q + (7 * W + D)) * 86400 + T + S) && decide ((Q + (7 * W + D)) * 86400 + T + S ≤ 345600086399)) = true := by simp; omega
            go_wp2_with fail
            refine (clkThere_any _ _).mono ?_; rintro e w' ⟨rfl, rfl⟩
            rw [hb]
            go_wp2_with fail
            go_ret2
            exact ⟨_, 0, rfl, HMK _ _ (.inl ⟨⟨g1, g2, h1, h2⟩, rfl, rfl⟩), ((Below.refl _ _).alloc (by omega) _).alloc (by simp) _⟩
      · have hb : (Y == 0) = false ∨ (Y = 0 ∧ (M == 0) = false) := by
          by_cases hY : Y = 0
          · exact .inr ⟨hY, by simpa using fun h => hYM ⟨hY, h⟩⟩
          · exact .inl (by simpa using hY)
        have HYM := Lib.hid hYM; clear hYM
        rcases hb with hb | ⟨rfl, hb⟩
        · go_wp2_with fail
          all_goals
            refine (cmonths_ok _ _ _ ((HR.out.alloc _).alloc _) (by omega) (by omega) (by omega) (by omega)).mono ?_; rintro en w1 ⟨q, z, rfl, hm, hb1⟩
            have hz1 := hb1.size
            simp only [World.size_alloc] at hz1
            obtain ⟨q1, p1⟩ := carry hb1 w.heap.size (by simp; omega)
            have hs1 : w.heap.size < w1.heap.size := by omega
            have HB1 := Lib.hid (offA (offA hb1)); clear hb1
            by_cases hz : z = 0
            · subst hz
              rw [errV_nil]
              have hq2 := hm.in
              have HMK : ∀ r x, AddF q T W D S r x → AddR t Y M W D S r x := fun r x hf => .inr ⟨HS.out, HH.out.1, HH.out.2, q, 0, .inr ⟨HYM.out, by rw [HQ.out.1]; exact hm⟩, .inr ⟨rfl, by rw [HQ.out.2]; exact hf⟩⟩
              rcases (show q + (7 * W + D) < -2000000000000 ∨ (¬ q + (7 * W + D) < -2000000000000 ∧ 2000000000000 < q + (7 * W + D)) ∨ (¬ q + (7 * W + D) < -2000000000000 ∧ ¬ 2000000000000 < q + (7 * W + D) ∧ q + (7 * W + D) < -4000000) ∨ (¬ q + (7 * W + D) < -2000000000000 ∧ ¬ 2000000000000 < q + (7 * W + D) ∧ ¬ q + (7 * W + D) < -4000000 ∧ 4000000 < q + (7 * W + D)) ∨ (-4000000 ≤ q + (7 * W + D) ∧ q + (7 * W + D) ≤ 4000000) by omega) with g | ⟨g1, g⟩ | ⟨g1, g2, g⟩ | ⟨g1, g2, g3, g⟩ | ⟨g1, g2⟩
              · go_wp2_with fail
                go_ret2
                exact ⟨0, 4, rfl, HMK _ _ (.inr ⟨fun h => by unfold AddOk at h; omega, rfl, rfl⟩), HB1.out⟩
              · go_wp2_with fail
                go_ret2
                exact ⟨0, 4, rfl, HMK _ _ (.inr ⟨fun h => by unfold AddOk at h; omega, rfl, rfl⟩), HB1.out⟩
              · go_wp2_with fail
                go_ret2
                exact ⟨0, 4, rfl, HMK _ _ (.inr ⟨fun h => by unfold AddOk at h; omega, rfl, rfl⟩), HB1.out⟩
              · go_wp2_with fail
                go_ret2
                exact ⟨0, 4, rfl, HMK _ _ (.inr ⟨fun h => by unfold AddOk at h; omega, rfl, rfl⟩), HB1.out⟩
              · rcases loc_ways ((q + (7 * W + D)) * 86400 + T + S) with h | ⟨h1, h2⟩
                · have hb : (decide (-345600000000 ≤ (q + (7 * W + D)) * 86400 + T + S) && decide ((q + (7 * W + D)) * 86400 + T + S ≤ 345600086399)) = false := by simp; omega
                  have HH2 := Lib.hid h; clear h
                  go_wp2_with fail
                  refine (clkThere_any _ _).mono ?_; rintro e w' ⟨rfl, rfl⟩
                  rw [hb]
                  go_wp2_with fail
                  go_ret2
                  exact ⟨0, 4, rfl, HMK _ _ (.inr ⟨fun h => by have h5 := HH2.out; unfold AddOk addN at h; omega, rfl, rfl⟩), HB1.out⟩
                · have hb : (decide (-345600000000 ≤ (q + (7 * W + D)) * 86400 + T + S) && decide ((q + (7 * W + D)) * 86400 + T + S ≤ 345600086399)) = true := by simp; omega
                  go_wp2_with fail
                  refine (clkThere_any _ _).mono ?_; rintro e w' ⟨rfl, rfl⟩
                  rw [hb]
                  go_wp2_with fail
                  go_ret2
                  exact ⟨_, 0, rfl, HMK _ _ (.inl ⟨⟨g1, g2, h1, h2⟩, rfl, rfl⟩), HB1.out⟩
            · have h4 := hm.four hz
              have HMM := Lib.hid hm; clear hm
              obtain ⟨rfl, rfl⟩ := h4
              rw [errV_hit hz]
              go_wp2_with fail
              go_ret2
              exact ⟨0, 4, rfl, .inr ⟨HS.out, HH.out.1, HH.out.2, 0, 4, .inr ⟨HYM.out, by rw [HQ.out.1]; exact HMM.out⟩, .inl ⟨hz, rfl, rfl⟩⟩, HB1.out⟩
        · go_wp2_with fail
          refine (cmonths_ok _ _ _ ((HR.out.alloc _).alloc _) (by omega) (by omega) (by omega) (by omega)).mono ?_; rintro en w1 ⟨q, z, rfl, hm, hb1⟩
          have hz1 := hb1.size
          simp only [World.size_alloc] at hz1
          obtain ⟨q1, p1⟩ := carry hb1 w.heap.size (by simp; omega)
          have hs1 : w.heap.size < w1.heap.size := by omega
          have HB1 := Lib.hid (offA (offA hb1)); clear hb1
          by_cases hz : z = 0
          · subst hz
            rw [errV_nil]
            have hq2 := hm.in
            have HMK : ∀ r x, AddF q T W D S r x → AddR t 0 M W D S r x := fun r x hf => .inr ⟨HS.out, HH.out.1, HH.out.2, q, 0, .inr ⟨fun h => HYM.out ⟨trivial, h.2⟩, by rw [HQ.out.1]; exact (by rw [show 12 * 0 + M = M by omega]; exact hm)⟩, .inr ⟨rfl, by rw [HQ.out.2]; exact hf⟩⟩
            rcases (show q + (7 * W + D) < -2000000000000 ∨ (¬ q + (7 * W + D) < -2000000000000 ∧ 2000000000000 < q + (7 * W + D)) ∨ (¬ q + (7 * W + D) < -2000000000000 ∧ ¬ 2000000000000 < q + (7 * W + D) ∧ q + (7 * W + D) < -4000000) ∨ (¬ q + (7 * W + D) < -2000000000000 ∧ ¬ 2000000000000 < q + (7 * W + D) ∧ ¬ q + (7 * W + D) < -4000000 ∧ 4000000 < q + (7 * W + D)) ∨ (-4000000 ≤ q + (7 * W + D) ∧ q + (7 * W + D) ≤ 4000000) by omega) with g | ⟨g1, g⟩ | ⟨g1, g2, g⟩ | ⟨g1, g2, g3, g⟩ | ⟨g1, g2⟩
            · go_wp2_with fail
              go_ret2
              exact ⟨0, 4, rfl, HMK _ _ (.inr ⟨fun h => by unfold AddOk at h; omega, rfl, rfl⟩), HB1.out⟩
            · go_wp2_with fail
              go_ret2
              exact ⟨0, 4, rfl, HMK _ _ (.inr ⟨fun h => by unfold AddOk at h; omega, rfl, rfl⟩), HB1.out⟩
            · go_wp2_with fail
              go_ret2
              exact ⟨0, 4, rfl, HMK _ _ (.inr ⟨fun h => by unfold AddOk at h; omega, rfl, rfl⟩), HB1.out⟩
            · go_wp2_with fail
              go_ret2
              exact ⟨0, 4, rfl, HMK _ _ (.inr ⟨fun h => by unfold AddOk at h; omega, rfl, rfl⟩), HB1.out⟩
            · rcases loc_ways ((q + (7 * W + D)) * 86400 + T + S) with h | ⟨h1, h2⟩
              · have hb : (decide (-345600000000 ≤ (q + (7 * W + D)) * 86400 + T + S) && decide ((q + (7 * W + D)) * 86400 + T + S ≤ 345600086399)) = false := by simp; omega
                have HH2 := Lib.hid h; clear h
                go_wp2_with fail
                refine (clkThere_any _ _).mono ?_; rintro e w' ⟨rfl, rfl⟩
                rw [hb]
                go_wp2_with fail
                go_ret2
                exact ⟨0, 4, rfl, HMK _ _ (.inr ⟨fun h => by have h5 := HH2.out; unfold AddOk addN at h; omega, rfl, rfl⟩), HB1.out⟩
              · have hb : (decide (-345600000000 ≤ (q + (7 * W + D)) * 86400 + T + S) && decide ((q + (7 * W + D)) * 86400 + T + S ≤ 345600086399)) = true := by simp; omega
                go_wp2_with fail
                refine (clkThere_any _ _).mono ?_; rintro e w' ⟨rfl, rfl⟩
                rw [hb]
                go_wp2_with fail
                go_ret2
                exact ⟨_, 0, rfl, HMK _ _ (.inl ⟨⟨g1, g2, h1, h2⟩, rfl, rfl⟩), HB1.out⟩
          · have h4 := hm.four hz
            have HMM := Lib.hid hm; clear hm
            obtain ⟨rfl, rfl⟩ := h4
            rw [errV_hit hz]
            go_wp2_with fail
            go_ret2
            exact ⟨0, 4, rfl, .inr ⟨HS.out, HH.out.1, HH.out.2, 0, 4, .inr ⟨fun h => HYM.out ⟨trivial, h.2⟩, by rw [HQ.out.1]; exact (by rw [show 12 * 0 + M = M by omega]; exact HMM.out)⟩, .inl ⟨hz, rfl, rfl⟩⟩, HB1.out⟩
  · rw [errV_hit (show (4 : Int) ≠ 0 by decide)]
    have HS := Lib.hid hs; clear hs
    go_wp2_with fail
    go_ret2
    exact ⟨0, 4, rfl, .inl ⟨.inl HS.out, rfl, rfl⟩, ((Below.refl _ _).alloc (by omega) _).alloc (by simp) _⟩
end Go.Proofs.YtpchkfnfipdilaaDoor
