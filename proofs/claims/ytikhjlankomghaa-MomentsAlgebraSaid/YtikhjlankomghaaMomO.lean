/- The ten equalities of the law MomentsAlgebra (printed by genMomO.py). -/
import Derived.Test.YtikhjlankomghaaMomM
import Derived.Test.YtikhjlankomghaaMomOS
namespace Go.Proofs.Ytikhjlankomghaa
open Go.RowKit
/-- A set in a box. -/
def Bx (w : World) (A : Nat) (v : Value) (l : List Iv) : Prop := (A < w.heap.size ∧ w.cell? ⟨A, 0, none⟩ = some v) ∧ IvS w v l
theorem Bx.call {w w' : World} {A : Nat} {v : Value} {l : List Iv} (h : Bx w A v l) (hb : Below w.heap.size w w') : Bx w' A v l :=
  ⟨⟨Nat.lt_of_lt_of_le h.1.1 hb.size, (hb.cell (p := ⟨A, 0, none⟩) h.1.1).trans h.1.2⟩, h.2.call hb⟩
/-- The post that asks for the common way out, and for no other. -/
def OnlyN (K : Act → World → Prop) : Exit → Act → World → Prop
  | .normal, a, w => K a w
  | _, _, _ => False

theorem sched_q2 {P : Program} {Q : Exit → Act → World → Prop} {S : World → Prop} {i : Nat} {r : List (Nat × Bool)} {l : List Oper} {o : Oper} {v : Value} {a : Act} {w : World} (ho : l[i]? = some o) (hw : Region.wanted o (yielded l.toArray a.tmps) = true) (hv : ∀ w, S w → (execOp a.eval o).run P w = .ok (.value v) w)
    (h : wpSched P l.toArray Q S r (a.put o.dst v) w) : wpSched P l.toArray Q S ((i, true) :: r) a w := sched_q (by simpa using ho) hw hv h
theorem sched_c2 {P : Program} {Q : Exit → Act → World → Prop} {S : World → Prop} {i : Nat} {r : List (Nat × Bool)} {l : List Oper} {o : Oper} {a : Act} {w : World} (ho : l[i]? = some o)
    (h : ∀ K' : Act → World → Prop, Shut (∀ a w, S w → (S w → wpSched P l.toArray Q S r a w) → K' a w) → if Region.wanted o (yielded l.toArray a.tmps) = true then Oper.wp P o a w K' Q else K' (a.put o.dst undef) w) :
    wpSched P l.toArray Q S ((i, false) :: r) a w := sched_c (by simpa using ho) h
theorem alg_0 {la lb lc ot1 ot2 : List Iv} (_NA : Norm la) (_NB : Norm lb) (_NC : Norm lc) (mt1 : OrM la lb ot1) (mt2 : OrM lb la ot2) : ot1 = ot2 := Norm.one (mt1.1) (mt2.1) fun x => by
  have et1 := mt1.2.1 x
  have et2 := mt2.2.1 x
  clear _NA _NB _NC mt1 mt2
  by_cases ha : InL la x <;> by_cases hb : InL lb x <;> by_cases hc : InL lc x <;> by_cases r1 : loM ≤ x <;> by_cases r2 : x < hiM <;> simp_all
theorem alg_1 {la lb lc ot3 ot4 : List Iv} (_NA : Norm la) (_NB : Norm lb) (_NC : Norm lc) (mt3 : AndM la lb ot3) (mt4 : AndM lb la ot4) : ot3 = ot4 := Norm.one (mt3.1) (mt4.1) fun x => by
  have et3 := mt3.2.1 x
  have et4 := mt4.2.1 x
  clear _NA _NB _NC mt3 mt4
  by_cases ha : InL la x <;> by_cases hb : InL lb x <;> by_cases hc : InL lc x <;> by_cases r1 : loM ≤ x <;> by_cases r2 : x < hiM <;> simp_all
theorem alg_2 {la lb lc ot5 ot6 ot7 ot8 : List Iv} (_NA : Norm la) (_NB : Norm lb) (_NC : Norm lc) (mt5 : OrM lb lc ot5) (mt6 : OrM la ot5 ot6) (mt7 : OrM la lb ot7) (mt8 : OrM ot7 lc ot8) : ot6 = ot8 := Norm.one (mt6.1) (mt8.1) fun x => by
  have et5 := mt5.2.1 x
  have et6 := mt6.2.1 x
  have et7 := mt7.2.1 x
  have et8 := mt8.2.1 x
  clear _NA _NB _NC mt5 mt6 mt7 mt8
  by_cases ha : InL la x <;> by_cases hb : InL lb x <;> by_cases hc : InL lc x <;> by_cases r1 : loM ≤ x <;> by_cases r2 : x < hiM <;> simp_all
theorem alg_3 {la lb lc ot9 ot10 ot11 ot12 : List Iv} (_NA : Norm la) (_NB : Norm lb) (_NC : Norm lc) (mt9 : AndM lb lc ot9) (mt10 : AndM la ot9 ot10) (mt11 : AndM la lb ot11) (mt12 : AndM ot11 lc ot12) : ot10 = ot12 := Norm.one (mt10.1) (mt12.1) fun x => by
  have et9 := mt9.2.1 x
  have et10 := mt10.2.1 x
  have et11 := mt11.2.1 x
  have et12 := mt12.2.1 x
  clear _NA _NB _NC mt9 mt10 mt11 mt12
  by_cases ha : InL la x <;> by_cases hb : InL lb x <;> by_cases hc : InL lc x <;> by_cases r1 : loM ≤ x <;> by_cases r2 : x < hiM <;> simp_all
theorem alg_4 {la lb lc ot13 ot14 ot15 ot16 ot17 : List Iv} (_NA : Norm la) (_NB : Norm lb) (_NC : Norm lc) (mt13 : OrM lb lc ot13) (mt14 : AndM la ot13 ot14) (mt15 : AndM la lb ot15) (mt16 : AndM la lc ot16) (mt17 : OrM ot15 ot16 ot17) : ot14 = ot17 := Norm.one (mt14.1) (mt17.1) fun x => by
  have et13 := mt13.2.1 x
  have et14 := mt14.2.1 x
  have et15 := mt15.2.1 x
  have et16 := mt16.2.1 x
  have et17 := mt17.2.1 x
  clear _NA _NB _NC mt13 mt14 mt15 mt16 mt17
  by_cases ha : InL la x <;> by_cases hb : InL lb x <;> by_cases hc : InL lc x <;> by_cases r1 : loM ≤ x <;> by_cases r2 : x < hiM <;> simp_all
theorem alg_5 {la lb lc ot18 ot19 ot20 ot21 ot22 : List Iv} (_NA : Norm la) (_NB : Norm lb) (_NC : Norm lc) (mt18 : AndM lb lc ot18) (mt19 : OrM la ot18 ot19) (mt20 : OrM la lb ot20) (mt21 : OrM la lc ot21) (mt22 : AndM ot20 ot21 ot22) : ot19 = ot22 := Norm.one (mt19.1) (mt22.1) fun x => by
  have et18 := mt18.2.1 x
  have et19 := mt19.2.1 x
  have et20 := mt20.2.1 x
  have et21 := mt21.2.1 x
  have et22 := mt22.2.1 x
  clear _NA _NB _NC mt18 mt19 mt20 mt21 mt22
  by_cases ha : InL la x <;> by_cases hb : InL lb x <;> by_cases hc : InL lc x <;> by_cases r1 : loM ≤ x <;> by_cases r2 : x < hiM <;> simp_all
theorem alg_6 {la lb lc ot23 ot24 ot25 ot26 ot27 : List Iv} (_NA : Norm la) (_NB : Norm lb) (_NC : Norm lc) (mt23 : OrM la lb ot23) (mt24 : NotM ot23 ot24) (mt25 : NotM la ot25) (mt26 : NotM lb ot26) (mt27 : AndM ot25 ot26 ot27) : ot24 = ot27 := Norm.one (mt24.1) (mt27.1) fun x => by
  have et23 := mt23.2.1 x
  have et24 := mt24.2.1 x
  have et25 := mt25.2.1 x
  have et26 := mt26.2.1 x
  have et27 := mt27.2.1 x
  have ra := fun h => _NA.range (x := x) h
  have rb := fun h => _NB.range (x := x) h
  clear _NA _NB _NC mt23 mt24 mt25 mt26 mt27
  by_cases ha : InL la x <;> by_cases hb : InL lb x <;> by_cases hc : InL lc x <;> by_cases r1 : loM ≤ x <;> by_cases r2 : x < hiM <;> simp_all
theorem alg_7 {la lb lc ot28 ot29 : List Iv} (_NA : Norm la) (_NB : Norm lb) (_NC : Norm lc) (mt28 : NotM la ot28) (mt29 : NotM ot28 ot29) : ot29 = la := Norm.one (mt29.1) (_NA) fun x => by
  have et28 := mt28.2.1 x
  have et29 := mt29.2.1 x
  have ra := fun h => _NA.range (x := x) h
  have rb := fun h => _NB.range (x := x) h
  clear _NA _NB _NC mt28 mt29
  by_cases ha : InL la x <;> by_cases hb : InL lb x <;> by_cases hc : InL lc x <;> by_cases r1 : loM ≤ x <;> by_cases r2 : x < hiM <;> simp_all
theorem alg_8 {la lb lc ot30 ot31 ot32 : List Iv} (_NA : Norm la) (_NB : Norm lb) (_NC : Norm lc) (mt30 : NotM la ot30) (mt31 : AndM la ot30 ot31) (mt32 : OfM [] ot32) : ot31 = ot32 := Norm.one (mt31.1) (mt32.norm) fun x => by
  have et30 := mt30.2.1 x
  have et31 := mt31.2.1 x
  have et32 := mt32.inl x
  have ra := fun h => _NA.range (x := x) h
  have rb := fun h => _NB.range (x := x) h
  have hnil := InL.nil x
  clear _NA _NB _NC mt30 mt31 mt32
  by_cases ha : InL la x <;> by_cases hb : InL lb x <;> by_cases hc : InL lc x <;> by_cases r1 : loM ≤ x <;> by_cases r2 : x < hiM <;> simp_all
theorem alg_9 {la lb lc ot33 ot34 : List Iv} (_NA : Norm la) (_NB : Norm lb) (_NC : Norm lc) (mt33 : AndM la lb ot33) (mt34 : OrM la ot33 ot34) : ot34 = la := Norm.one (mt34.1) (_NA) fun x => by
  have et33 := mt33.2.1 x
  have et34 := mt34.2.1 x
  clear _NA _NB _NC mt33 mt34
  by_cases ha : InL la x <;> by_cases hb : InL lb x <;> by_cases hc : InL lc x <;> by_cases r1 : loM ≤ x <;> by_cases r2 : x < hiM <;> simp_all
def PostEQ (w : World) (a : Act) (w' : World) : Prop := a.tmps.getD 8 undef = .bool true ∧ a.defers = [] ∧ Below w.heap.size w w' 
set_option maxRecDepth 1000000 in
set_option maxHeartbeats 16000000 in
theorem algEQ (A1 A2 A3 : Nat) (va vb vc : Value) (la lb lc : List Iv) (w : World) (ha : Bx w A1 va la) (hb : Bx w A2 vb lb) (hc : Bx w A3 vc lc) (na : Norm la) (nb : Norm lb) (nc : Norm lc) (sa : la.length ≤ 64) (sb : lb.length ≤ 64) (sc : lc.length ≤ 64) {u0 u1 u2 u3 u4 u5 u6 u7 u8 u12 u13 u14 u15 u16 u17 u18 u20 u21 u22 u23 u24 u25 u26 u27 u28 u29 u30 u31 u32 u33 u34 u35 u36 u37 u38 u39 u40 u41 u42 u43 u44 u45 u46 u47 u48 u49 u50 u51 u52 u53 u54 u55 u56 u57 u58 u59 u60 u61 u62 u63 u64 u65 u66 u67 u68 u69 u70 u71 u72 u73 u74 u75 u76 u77 u78 u79 u80 u81 u82 u83 u84 u85 u86 u87 u88 u89 u90 u91 u92 u93 u94 u95 u96 u97 u98 u99 u100 u101 u102 u103 u104 u105 u106 u107 u108 u109 u110 u111 u112 u113 u114 u115 u116 u117 u118 u119 u120 u121 u122 u123 u124 u125 u126 u127 u128 u129 u130 u131 u132 u133 u134 u135 u136 u137 u138 u139 u140 u141 u142 u143 u144 u145 u146 u147 u148 u149 u150 u151 u152 u153 u154 u155 u156 u157 u158 u159 u160 u161 u162 u163 u164 u165 u166 u167 u168 u169 u170 u171 u172 u173 u174 u175 u176 u177 u178 u179 u180 u181 u182 u183 u184 u185 u186 u187 u188 u189 u190 u191 u192 u193 u194 u195 u196 u197 u198 u199 u200 u201 u202 u203 u204 u205 u206 u207 u208 u209 u210 u211 u212 u213 u214 u215 u216 u217 u218 u219 u220 u221 u222 u223 u224 u225 u226 u227 u228 u229 u230 u231 u232 u233 u234 u235 u236 u237 u238 u239 u240 u241 u242 u243 u244 u245 u246 u247 u248 u249 u250 u251 u252 u253 u254 u255 u256 u257 u258 u259 u260 u261 u262 : Value} :
    Code.wp Try.prog codeEQ (OnlyN (PostEQ w)) ⟨#[u0, u1, u2, u3, u4, u5, u6, u7, u8, .pointer (some ⟨A1, 0, none⟩), .pointer (some ⟨A2, 0, none⟩), .pointer (some ⟨A3, 0, none⟩), u12, u13, u14, u15, u16, u17, u18, .func (.func 10) #[] #[], u20, u21, u22, u23, u24, u25, u26, u27, u28, u29, u30, u31, u32, u33, u34, u35, u36, u37, u38, u39, u40, u41, u42, u43, u44, u45, u46, u47, u48, u49, u50, u51, u52, u53, u54, u55, u56, u57, u58, u59, u60, u61, u62, u63, u64, u65, u66, u67, u68, u69, u70, u71, u72, u73, u74, u75, u76, u77, u78, u79, u80, u81, u82, u83, u84, u85, u86, u87, u88, u89, u90, u91, u92, u93, u94, u95, u96, u97, u98, u99, u100, u101, u102, u103, u104, u105, u106, u107, u108, u109, u110, u111, u112, u113, u114, u115, u116, u117, u118, u119, u120, u121, u122, u123, u124, u125, u126, u127, u128, u129, u130, u131, u132, u133, u134, u135, u136, u137, u138, u139, u140, u141, u142, u143, u144, u145, u146, u147, u148, u149, u150, u151, u152, u153, u154, u155, u156, u157, u158, u159, u160, u161, u162, u163, u164, u165, u166, u167, u168, u169, u170, u171, u172, u173, u174, u175, u176, u177, u178, u179, u180, u181, u182, u183, u184, u185, u186, u187, u188, u189, u190, u191, u192, u193, u194, u195, u196, u197, u198, u199, u200, u201, u202, u203, u204, u205, u206, u207, u208, u209, u210, u211, u212, u213, u214, u215, u216, u217, u218, u219, u220, u221, u222, u223, u224, u225, u226, u227, u228, u229, u230, u231, u232, u233, u234, u235, u236, u237, u238, u239, u240, u241, u242, u243, u244, u245, u246, u247, u248, u249, u250, u251, u252, u253, u254, u255, u256, u257, u258, u259, u260, u261, u262], []⟩ w := by
  have NA := Lib.hid na
  have NB := Lib.hid nb
  have NC := Lib.hid nc
  have BA := Lib.hid sa
  have BB := Lib.hid sb
  have BC := Lib.hid sc
  have HBW := Lib.hid (below_drew (Below.refl w.heap.size w))
  have Za := Lib.hid (ha.call HBW.out)
  have Zb := Lib.hid (hb.call HBW.out)
  have Zc := Lib.hid (hc.call HBW.out)
  clear ha hb hc na nb nc sa sb sc
  conv => arg 2; whnf; dsimp only [List.append]
  conv => arg 4; dsimp only
  refine wp_region_sched (S := fun w' => (A1 < w'.heap.size ∧ w'.cell? ⟨A1, 0, none⟩ = some va) ∧ (A2 < w'.heap.size ∧ w'.cell? ⟨A2, 0, none⟩ = some vb) ∧ (A3 < w'.heap.size ∧ w'.cell? ⟨A3, 0, none⟩ = some vc)) schedEQ (List.replicate 119 false) (List.replicate 119 true) [(0, true), (1, true), (2, true), (4, true), (5, true), (3, false), (6, false), (7, false), (8, true), (9, true), (10, true), (11, true), (13, true), (14, true), (12, false), (15, false), (16, false), (17, true), (18, true), (19, true), (20, true), (21, true), (22, true), (25, true), (26, true), (28, true), (23, false), (24, false), (27, false), (29, false), (30, false), (31, true), (32, true), (33, true), (34, true), (35, true), (36, true), (39, true), (40, true), (42, true), (37, false), (38, false), (41, false), (43, false), (44, false), (45, true), (46, true), (47, true), (48, true), (49, true), (50, true), (53, true), (54, true), (56, true), (57, true), (51, false), (52, false), (55, false), (58, false), (59, false), (60, false), (61, true), (62, true), (63, true), (64, true), (65, true), (66, true), (69, true), (70, true), (72, true), (73, true), (67, false), (68, false), (71, false), (74, false), (75, false), (76, false), (77, true), (78, true), (79, true), (80, true), (81, true), (84, true), (86, true), (82, false), (83, false), (85, false), (87, false), (88, false), (89, false), (90, true), (91, true), (92, true), (93, true), (96, true), (94, false), (95, false), (97, false), (98, true), (99, true), (100, true), (101, true), (102, true), (103, false), (104, false), (105, false), (106, false), (107, true), (108, true), (109, true), (110, true), (111, true), (112, true), (115, true), (113, false), (114, false), (116, false), (117, true), (118, true)] (by kernel_rfl) (by kernel_rfl) (fun _ _ _ _ _ h => h) rfl rfl schedOK schedLn schedEnd (by kernel_rfl) ⟨Za.out.1, Zb.out.1, Zc.out.1⟩ (fun hHeld => ?_)
  refine sched_q2 (v := ?_) rfl (by rfl) ?_ ?_
  rotate_left
  · (intro w hSw; (try dsimp only at hSw); go_simp; (try with_reducible rfl))
  try simp only [Act.put, List.setIfInBounds_toArray, List.set_cons_zero, List.set_cons_succ]
  refine sched_q2 (v := ?_) rfl (by rfl) ?_ ?_
  rotate_left
  · (intro w hSw; (try dsimp only at hSw); go_simp; (try with_reducible rfl))
  try simp only [Act.put, List.setIfInBounds_toArray, List.set_cons_zero, List.set_cons_succ]
  refine sched_q2 (v := ?_) rfl (by rfl) ?_ ?_
  rotate_left
  · (intro w hSw; (try dsimp only at hSw); go_simp; (try with_reducible rfl))
  try simp only [Act.put, List.setIfInBounds_toArray, List.set_cons_zero, List.set_cons_succ]
  refine sched_q2 (v := ?_) rfl (by rfl) ?_ ?_
  rotate_left
  · (intro w hSw; (try dsimp only at hSw); go_simp; (try with_reducible rfl))
  try simp only [Act.put, List.setIfInBounds_toArray, List.set_cons_zero, List.set_cons_succ]
  refine sched_q2 (v := ?_) rfl (by rfl) ?_ ?_
  rotate_left
  · (intro w hSw; (try dsimp only at hSw); go_simp; (try with_reducible rfl))
  try simp only [Act.put, List.setIfInBounds_toArray, List.set_cons_zero, List.set_cons_succ]
  refine sched_c2 rfl (fun K hK => ?_)
  go_simp
  go_at_call 6
  refine (por_any _ _ la lb _ (Za.out.2) (Zb.out.2) (Nat.le_trans (Nat.add_le_add (BA.out) (BB.out)) (by decide)) (NA.out) (NB.out)).mono ?_
  rintro e wt1 ⟨vt1, ot1, rfl, hOt1, hvt1, -, hbt1⟩
  have HOt1 := Lib.hid hOt1
  have HVt1 := Lib.hid hvt1
  have Bdt1 := Lib.hid (show ot1.length ≤ 128 from Nat.le_trans hOt1.2.2 (Nat.add_le_add (BA.out) (BB.out)))
  replace Za := Lib.hid (Za.out.call hbt1)
  replace Zb := Lib.hid (Zb.out.call hbt1)
  replace Zc := Lib.hid (Zc.out.call hbt1)
  replace HBW := Lib.hid (thenB HBW.out hbt1)
  clear hOt1 hvt1 hbt1
  try dsimp only
  refine hK.out _ _ ⟨Za.out.1, Zb.out.1, Zc.out.1⟩ (fun hHeld2 => ?_)
  clear hK K hHeld; have hHeld := hHeld2; clear hHeld2
  try simp only [Act.put, List.setIfInBounds_toArray, List.set_cons_zero, List.set_cons_succ]
  refine sched_c2 rfl (fun K hK => ?_)
  go_simp
  go_at_call 6
  refine (por_any _ _ lb la _ (Zb.out.2) (Za.out.2) (Nat.le_trans (Nat.add_le_add (BB.out) (BA.out)) (by decide)) (NB.out) (NA.out)).mono ?_
  rintro e wt2 ⟨vt2, ot2, rfl, hOt2, hvt2, -, hbt2⟩
  have HOt2 := Lib.hid hOt2
  have HVt2 := Lib.hid hvt2
  have Bdt2 := Lib.hid (show ot2.length ≤ 128 from Nat.le_trans hOt2.2.2 (Nat.add_le_add (BB.out) (BA.out)))
  replace HVt1 := Lib.hid (HVt1.out.call hbt2)
  replace Za := Lib.hid (Za.out.call hbt2)
  replace Zb := Lib.hid (Zb.out.call hbt2)
  replace Zc := Lib.hid (Zc.out.call hbt2)
  replace HBW := Lib.hid (thenB HBW.out hbt2)
  clear hOt2 hvt2 hbt2
  try dsimp only
  refine hK.out _ _ ⟨Za.out.1, Zb.out.1, Zc.out.1⟩ (fun hHeld2 => ?_)
  clear hK K hHeld; have hHeld := hHeld2; clear hHeld2
  try simp only [Act.put, List.setIfInBounds_toArray, List.set_cons_zero, List.set_cons_succ]
  refine sched_c2 rfl (fun K hK => ?_)
  go_simp
  go_at_call 10
  have hEQ := alg_0 NA.out NB.out NC.out HOt1.out HOt2.out
  have hY := HVt2.out
  have hX := HVt1.out
  rw [hEQ] at hX
  refine (eq_yes _ _ ot2 _ hX hY (Nat.le_trans (Bdt2.out) (by decide))).mono ?_
  rintro e wE0 ⟨rfl, hbE⟩
  replace Za := Lib.hid (Za.out.call hbE)
  replace Zb := Lib.hid (Zb.out.call hbE)
  replace Zc := Lib.hid (Zc.out.call hbE)
  replace HBW := Lib.hid (thenB HBW.out hbE)
  clear hbE hX hY hEQ
  clear HOt1 HVt1 Bdt1 HOt2 HVt2 Bdt2
  try dsimp only
  refine hK.out _ _ ⟨Za.out.1, Zb.out.1, Zc.out.1⟩ (fun hHeld2 => ?_)
  clear hK K hHeld; have hHeld := hHeld2; clear hHeld2
  try simp only [Act.put, List.setIfInBounds_toArray, List.set_cons_zero, List.set_cons_succ]
  refine sched_q2 (v := ?_) rfl (by rfl) ?_ ?_
  rotate_left
  · (intro w hSw; (try dsimp only at hSw); go_simp; (try with_reducible rfl))
  try simp only [Act.put, List.setIfInBounds_toArray, List.set_cons_zero, List.set_cons_succ]
  refine sched_q2 (v := ?_) rfl (by rfl) ?_ ?_
  rotate_left
  · (intro w hSw; (try dsimp only at hSw); go_simp; (try with_reducible rfl))
  try simp only [Act.put, List.setIfInBounds_toArray, List.set_cons_zero, List.set_cons_succ]
  refine sched_q2 (v := ?_) rfl (by rfl) ?_ ?_
  rotate_left
  · (intro w hSw; (try dsimp only at hSw); go_simp; (try with_reducible rfl))
  try simp only [Act.put, List.setIfInBounds_toArray, List.set_cons_zero, List.set_cons_succ]
  refine sched_q2 (v := ?_) rfl (by rfl) ?_ ?_
  rotate_left
  · (intro w hSw; (try dsimp only at hSw); go_simp; (try with_reducible rfl))
  try simp only [Act.put, List.setIfInBounds_toArray, List.set_cons_zero, List.set_cons_succ]
  refine sched_q2 (v := ?_) rfl (by rfl) ?_ ?_
  rotate_left
  · (intro w hSw; (try dsimp only at hSw); go_simp; (try with_reducible rfl))
  try simp only [Act.put, List.setIfInBounds_toArray, List.set_cons_zero, List.set_cons_succ]
  refine sched_q2 (v := ?_) rfl (by rfl) ?_ ?_
  rotate_left
  · (intro w hSw; (try dsimp only at hSw); go_simp; (try with_reducible rfl))
  try simp only [Act.put, List.setIfInBounds_toArray, List.set_cons_zero, List.set_cons_succ]
  refine sched_c2 rfl (fun K hK => ?_)
  go_simp
  go_at_call 7
  refine (pand_any _ _ la lb _ (Za.out.2) (Zb.out.2) (Nat.le_trans (Nat.mul_le_mul (BA.out) (BB.out)) (by decide)) (Nat.le_trans (BA.out) (by decide)) (Nat.le_trans (BB.out) (by decide)) (NA.out)).mono ?_
  rintro e wt3 ⟨vt3, ot3, rfl, hOt3, hvt3, -, hbt3⟩
  have HOt3 := Lib.hid hOt3
  have HVt3 := Lib.hid hvt3
  have Bdt3 := Lib.hid (show ot3.length ≤ 4096 from Nat.le_trans hOt3.2.2 (Nat.mul_le_mul (BA.out) (BB.out)))
  replace Za := Lib.hid (Za.out.call hbt3)
  replace Zb := Lib.hid (Zb.out.call hbt3)
  replace Zc := Lib.hid (Zc.out.call hbt3)
  replace HBW := Lib.hid (thenB HBW.out hbt3)
  clear hOt3 hvt3 hbt3
  try dsimp only
  refine hK.out _ _ ⟨Za.out.1, Zb.out.1, Zc.out.1⟩ (fun hHeld2 => ?_)
  clear hK K hHeld; have hHeld := hHeld2; clear hHeld2
  try simp only [Act.put, List.setIfInBounds_toArray, List.set_cons_zero, List.set_cons_succ]
  refine sched_c2 rfl (fun K hK => ?_)
  go_simp
  go_at_call 7
  refine (pand_any _ _ lb la _ (Zb.out.2) (Za.out.2) (Nat.le_trans (Nat.mul_le_mul (BB.out) (BA.out)) (by decide)) (Nat.le_trans (BB.out) (by decide)) (Nat.le_trans (BA.out) (by decide)) (NB.out)).mono ?_
  rintro e wt4 ⟨vt4, ot4, rfl, hOt4, hvt4, -, hbt4⟩
  have HOt4 := Lib.hid hOt4
  have HVt4 := Lib.hid hvt4
  have Bdt4 := Lib.hid (show ot4.length ≤ 4096 from Nat.le_trans hOt4.2.2 (Nat.mul_le_mul (BB.out) (BA.out)))
  replace HVt3 := Lib.hid (HVt3.out.call hbt4)
  replace Za := Lib.hid (Za.out.call hbt4)
  replace Zb := Lib.hid (Zb.out.call hbt4)
  replace Zc := Lib.hid (Zc.out.call hbt4)
  replace HBW := Lib.hid (thenB HBW.out hbt4)
  clear hOt4 hvt4 hbt4
  try dsimp only
  refine hK.out _ _ ⟨Za.out.1, Zb.out.1, Zc.out.1⟩ (fun hHeld2 => ?_)
  clear hK K hHeld; have hHeld := hHeld2; clear hHeld2
  try simp only [Act.put, List.setIfInBounds_toArray, List.set_cons_zero, List.set_cons_succ]
  refine sched_c2 rfl (fun K hK => ?_)
  go_simp
  go_at_call 10
  have hEQ := alg_1 NA.out NB.out NC.out HOt3.out HOt4.out
  have hY := HVt4.out
  have hX := HVt3.out
  rw [hEQ] at hX
  refine (eq_yes _ _ ot4 _ hX hY (Nat.le_trans (Bdt4.out) (by decide))).mono ?_
  rintro e wE1 ⟨rfl, hbE⟩
  replace Za := Lib.hid (Za.out.call hbE)
  replace Zb := Lib.hid (Zb.out.call hbE)
  replace Zc := Lib.hid (Zc.out.call hbE)
  replace HBW := Lib.hid (thenB HBW.out hbE)
  clear hbE hX hY hEQ
  clear HOt3 HVt3 Bdt3 HOt4 HVt4 Bdt4
  try dsimp only
  refine hK.out _ _ ⟨Za.out.1, Zb.out.1, Zc.out.1⟩ (fun hHeld2 => ?_)
  clear hK K hHeld; have hHeld := hHeld2; clear hHeld2
  try simp only [Act.put, List.setIfInBounds_toArray, List.set_cons_zero, List.set_cons_succ]
  refine sched_q2 (v := ?_) rfl (by rfl) ?_ ?_
  rotate_left
  · (intro w hSw; (try dsimp only at hSw); go_simp; (try with_reducible rfl))
  try simp only [Act.put, List.setIfInBounds_toArray, List.set_cons_zero, List.set_cons_succ]
  refine sched_q2 (v := ?_) rfl (by rfl) ?_ ?_
  rotate_left
  · (intro w hSw; (try dsimp only at hSw); go_simp; (try with_reducible rfl))
  try simp only [Act.put, List.setIfInBounds_toArray, List.set_cons_zero, List.set_cons_succ]
  refine sched_q2 (v := ?_) rfl (by rfl) ?_ ?_
  rotate_left
  · (intro w hSw; (try dsimp only at hSw); go_simp; (try with_reducible rfl))
  try simp only [Act.put, List.setIfInBounds_toArray, List.set_cons_zero, List.set_cons_succ]
  refine sched_q2 (v := ?_) rfl (by rfl) ?_ ?_
  rotate_left
  · (intro w hSw; (try dsimp only at hSw); go_simp; (try with_reducible rfl))
  try simp only [Act.put, List.setIfInBounds_toArray, List.set_cons_zero, List.set_cons_succ]
  refine sched_q2 (v := ?_) rfl (by rfl) ?_ ?_
  rotate_left
  · (intro w hSw; (try dsimp only at hSw); go_simp; (try with_reducible rfl))
  try simp only [Act.put, List.setIfInBounds_toArray, List.set_cons_zero, List.set_cons_succ]
  refine sched_q2 (v := ?_) rfl (by rfl) ?_ ?_
  rotate_left
  · (intro w hSw; (try dsimp only at hSw); go_simp; (try with_reducible rfl))
  try simp only [Act.put, List.setIfInBounds_toArray, List.set_cons_zero, List.set_cons_succ]
  refine sched_q2 (v := ?_) rfl (by rfl) ?_ ?_
  rotate_left
  · (intro w hSw; (try dsimp only at hSw); go_simp; (try with_reducible rfl))
  try simp only [Act.put, List.setIfInBounds_toArray, List.set_cons_zero, List.set_cons_succ]
  refine sched_q2 (v := ?_) rfl (by rfl) ?_ ?_
  rotate_left
  · (intro w hSw; (try dsimp only at hSw); go_simp; (try with_reducible rfl))
  try simp only [Act.put, List.setIfInBounds_toArray, List.set_cons_zero, List.set_cons_succ]
  refine sched_q2 (v := ?_) rfl (by rfl) ?_ ?_
  rotate_left
  · (intro w hSw; (try dsimp only at hSw); go_simp; (try with_reducible rfl))
  try simp only [Act.put, List.setIfInBounds_toArray, List.set_cons_zero, List.set_cons_succ]
  refine sched_c2 rfl (fun K hK => ?_)
  go_simp
  go_at_call 6
  refine (por_any _ _ lb lc _ (Zb.out.2) (Zc.out.2) (Nat.le_trans (Nat.add_le_add (BB.out) (BC.out)) (by decide)) (NB.out) (NC.out)).mono ?_
  rintro e wt5 ⟨vt5, ot5, rfl, hOt5, hvt5, -, hbt5⟩
  have HOt5 := Lib.hid hOt5
  have HVt5 := Lib.hid hvt5
  have Bdt5 := Lib.hid (show ot5.length ≤ 128 from Nat.le_trans hOt5.2.2 (Nat.add_le_add (BB.out) (BC.out)))
  replace Za := Lib.hid (Za.out.call hbt5)
  replace Zb := Lib.hid (Zb.out.call hbt5)
  replace Zc := Lib.hid (Zc.out.call hbt5)
  replace HBW := Lib.hid (thenB HBW.out hbt5)
  clear hOt5 hvt5 hbt5
  try dsimp only
  refine hK.out _ _ ⟨Za.out.1, Zb.out.1, Zc.out.1⟩ (fun hHeld2 => ?_)
  clear hK K hHeld; have hHeld := hHeld2; clear hHeld2
  try simp only [Act.put, List.setIfInBounds_toArray, List.set_cons_zero, List.set_cons_succ]
  refine sched_c2 rfl (fun K hK => ?_)
  go_simp
  go_at_call 6
  refine (por_any _ _ la ot5 _ (Za.out.2) (HVt5.out) (Nat.le_trans (Nat.add_le_add (BA.out) (Bdt5.out)) (by decide)) (NA.out) (HOt5.out.1)).mono ?_
  rintro e wt6 ⟨vt6, ot6, rfl, hOt6, hvt6, -, hbt6⟩
  have HOt6 := Lib.hid hOt6
  have HVt6 := Lib.hid hvt6
  have Bdt6 := Lib.hid (show ot6.length ≤ 192 from Nat.le_trans hOt6.2.2 (Nat.add_le_add (BA.out) (Bdt5.out)))
  replace HVt5 := Lib.hid (HVt5.out.call hbt6)
  replace Za := Lib.hid (Za.out.call hbt6)
  replace Zb := Lib.hid (Zb.out.call hbt6)
  replace Zc := Lib.hid (Zc.out.call hbt6)
  replace HBW := Lib.hid (thenB HBW.out hbt6)
  clear hOt6 hvt6 hbt6
  try dsimp only
  refine hK.out _ _ ⟨Za.out.1, Zb.out.1, Zc.out.1⟩ (fun hHeld2 => ?_)
  clear hK K hHeld; have hHeld := hHeld2; clear hHeld2
  try simp only [Act.put, List.setIfInBounds_toArray, List.set_cons_zero, List.set_cons_succ]
  refine sched_c2 rfl (fun K hK => ?_)
  go_simp
  go_at_call 6
  refine (por_any _ _ la lb _ (Za.out.2) (Zb.out.2) (Nat.le_trans (Nat.add_le_add (BA.out) (BB.out)) (by decide)) (NA.out) (NB.out)).mono ?_
  rintro e wt7 ⟨vt7, ot7, rfl, hOt7, hvt7, -, hbt7⟩
  have HOt7 := Lib.hid hOt7
  have HVt7 := Lib.hid hvt7
  have Bdt7 := Lib.hid (show ot7.length ≤ 128 from Nat.le_trans hOt7.2.2 (Nat.add_le_add (BA.out) (BB.out)))
  replace HVt5 := Lib.hid (HVt5.out.call hbt7)
  replace HVt6 := Lib.hid (HVt6.out.call hbt7)
  replace Za := Lib.hid (Za.out.call hbt7)
  replace Zb := Lib.hid (Zb.out.call hbt7)
  replace Zc := Lib.hid (Zc.out.call hbt7)
  replace HBW := Lib.hid (thenB HBW.out hbt7)
  clear hOt7 hvt7 hbt7
  try dsimp only
  refine hK.out _ _ ⟨Za.out.1, Zb.out.1, Zc.out.1⟩ (fun hHeld2 => ?_)
  clear hK K hHeld; have hHeld := hHeld2; clear hHeld2
  try simp only [Act.put, List.setIfInBounds_toArray, List.set_cons_zero, List.set_cons_succ]
  refine sched_c2 rfl (fun K hK => ?_)
  go_simp
  go_at_call 6
  refine (por_any _ _ ot7 lc _ (HVt7.out) (Zc.out.2) (Nat.le_trans (Nat.add_le_add (Bdt7.out) (BC.out)) (by decide)) (HOt7.out.1) (NC.out)).mono ?_
  rintro e wt8 ⟨vt8, ot8, rfl, hOt8, hvt8, -, hbt8⟩
  have HOt8 := Lib.hid hOt8
  have HVt8 := Lib.hid hvt8
  have Bdt8 := Lib.hid (show ot8.length ≤ 192 from Nat.le_trans hOt8.2.2 (Nat.add_le_add (Bdt7.out) (BC.out)))
  replace HVt5 := Lib.hid (HVt5.out.call hbt8)
  replace HVt6 := Lib.hid (HVt6.out.call hbt8)
  replace HVt7 := Lib.hid (HVt7.out.call hbt8)
  replace Za := Lib.hid (Za.out.call hbt8)
  replace Zb := Lib.hid (Zb.out.call hbt8)
  replace Zc := Lib.hid (Zc.out.call hbt8)
  replace HBW := Lib.hid (thenB HBW.out hbt8)
  clear hOt8 hvt8 hbt8
  try dsimp only
  refine hK.out _ _ ⟨Za.out.1, Zb.out.1, Zc.out.1⟩ (fun hHeld2 => ?_)
  clear hK K hHeld; have hHeld := hHeld2; clear hHeld2
  try simp only [Act.put, List.setIfInBounds_toArray, List.set_cons_zero, List.set_cons_succ]
  refine sched_c2 rfl (fun K hK => ?_)
  go_simp
  go_at_call 10
  have hEQ := alg_2 NA.out NB.out NC.out HOt5.out HOt6.out HOt7.out HOt8.out
  have hY := HVt8.out
  have hX := HVt6.out
  rw [hEQ] at hX
  refine (eq_yes _ _ ot8 _ hX hY (Nat.le_trans (Bdt8.out) (by decide))).mono ?_
  rintro e wE2 ⟨rfl, hbE⟩
  replace Za := Lib.hid (Za.out.call hbE)
  replace Zb := Lib.hid (Zb.out.call hbE)
  replace Zc := Lib.hid (Zc.out.call hbE)
  replace HBW := Lib.hid (thenB HBW.out hbE)
  clear hbE hX hY hEQ
  clear HOt5 HVt5 Bdt5 HOt6 HVt6 Bdt6 HOt7 HVt7 Bdt7 HOt8 HVt8 Bdt8
  try dsimp only
  refine hK.out _ _ ⟨Za.out.1, Zb.out.1, Zc.out.1⟩ (fun hHeld2 => ?_)
  clear hK K hHeld; have hHeld := hHeld2; clear hHeld2
  try simp only [Act.put, List.setIfInBounds_toArray, List.set_cons_zero, List.set_cons_succ]
  refine sched_q2 (v := ?_) rfl (by rfl) ?_ ?_
  rotate_left
  · (intro w hSw; (try dsimp only at hSw); go_simp; (try with_reducible rfl))
  try simp only [Act.put, List.setIfInBounds_toArray, List.set_cons_zero, List.set_cons_succ]
  refine sched_q2 (v := ?_) rfl (by rfl) ?_ ?_
  rotate_left
  · (intro w hSw; (try dsimp only at hSw); go_simp; (try with_reducible rfl))
  try simp only [Act.put, List.setIfInBounds_toArray, List.set_cons_zero, List.set_cons_succ]
  refine sched_q2 (v := ?_) rfl (by rfl) ?_ ?_
  rotate_left
  · (intro w hSw; (try dsimp only at hSw); go_simp; (try with_reducible rfl))
  try simp only [Act.put, List.setIfInBounds_toArray, List.set_cons_zero, List.set_cons_succ]
  refine sched_q2 (v := ?_) rfl (by rfl) ?_ ?_
  rotate_left
  · (intro w hSw; (try dsimp only at hSw); go_simp; (try with_reducible rfl))
  try simp only [Act.put, List.setIfInBounds_toArray, List.set_cons_zero, List.set_cons_succ]
  refine sched_q2 (v := ?_) rfl (by rfl) ?_ ?_
  rotate_left
  · (intro w hSw; (try dsimp only at hSw); go_simp; (try with_reducible rfl))
  try simp only [Act.put, List.setIfInBounds_toArray, List.set_cons_zero, List.set_cons_succ]
  refine sched_q2 (v := ?_) rfl (by rfl) ?_ ?_
  rotate_left
  · (intro w hSw; (try dsimp only at hSw); go_simp; (try with_reducible rfl))
  try simp only [Act.put, List.setIfInBounds_toArray, List.set_cons_zero, List.set_cons_succ]
  refine sched_q2 (v := ?_) rfl (by rfl) ?_ ?_
  rotate_left
  · (intro w hSw; (try dsimp only at hSw); go_simp; (try with_reducible rfl))
  try simp only [Act.put, List.setIfInBounds_toArray, List.set_cons_zero, List.set_cons_succ]
  refine sched_q2 (v := ?_) rfl (by rfl) ?_ ?_
  rotate_left
  · (intro w hSw; (try dsimp only at hSw); go_simp; (try with_reducible rfl))
  try simp only [Act.put, List.setIfInBounds_toArray, List.set_cons_zero, List.set_cons_succ]
  refine sched_q2 (v := ?_) rfl (by rfl) ?_ ?_
  rotate_left
  · (intro w hSw; (try dsimp only at hSw); go_simp; (try with_reducible rfl))
  try simp only [Act.put, List.setIfInBounds_toArray, List.set_cons_zero, List.set_cons_succ]
  refine sched_c2 rfl (fun K hK => ?_)
  go_simp
  go_at_call 7
  refine (pand_any _ _ lb lc _ (Zb.out.2) (Zc.out.2) (Nat.le_trans (Nat.mul_le_mul (BB.out) (BC.out)) (by decide)) (Nat.le_trans (BB.out) (by decide)) (Nat.le_trans (BC.out) (by decide)) (NB.out)).mono ?_
  rintro e wt9 ⟨vt9, ot9, rfl, hOt9, hvt9, -, hbt9⟩
  have HOt9 := Lib.hid hOt9
  have HVt9 := Lib.hid hvt9
  have Bdt9 := Lib.hid (show ot9.length ≤ 4096 from Nat.le_trans hOt9.2.2 (Nat.mul_le_mul (BB.out) (BC.out)))
  replace Za := Lib.hid (Za.out.call hbt9)
  replace Zb := Lib.hid (Zb.out.call hbt9)
  replace Zc := Lib.hid (Zc.out.call hbt9)
  replace HBW := Lib.hid (thenB HBW.out hbt9)
  clear hOt9 hvt9 hbt9
  try dsimp only
  refine hK.out _ _ ⟨Za.out.1, Zb.out.1, Zc.out.1⟩ (fun hHeld2 => ?_)
  clear hK K hHeld; have hHeld := hHeld2; clear hHeld2
  try simp only [Act.put, List.setIfInBounds_toArray, List.set_cons_zero, List.set_cons_succ]
  refine sched_c2 rfl (fun K hK => ?_)
  go_simp
  go_at_call 7
  refine (pand_any _ _ la ot9 _ (Za.out.2) (HVt9.out) (Nat.le_trans (Nat.mul_le_mul (BA.out) (Bdt9.out)) (by decide)) (Nat.le_trans (BA.out) (by decide)) (Nat.le_trans (Bdt9.out) (by decide)) (NA.out)).mono ?_
  rintro e wt10 ⟨vt10, ot10, rfl, hOt10, hvt10, -, hbt10⟩
  have HOt10 := Lib.hid hOt10
  have HVt10 := Lib.hid hvt10
  have Bdt10 := Lib.hid (show ot10.length ≤ 262144 from Nat.le_trans hOt10.2.2 (Nat.mul_le_mul (BA.out) (Bdt9.out)))
  replace HVt9 := Lib.hid (HVt9.out.call hbt10)
  replace Za := Lib.hid (Za.out.call hbt10)
  replace Zb := Lib.hid (Zb.out.call hbt10)
  replace Zc := Lib.hid (Zc.out.call hbt10)
  replace HBW := Lib.hid (thenB HBW.out hbt10)
  clear hOt10 hvt10 hbt10
  try dsimp only
  refine hK.out _ _ ⟨Za.out.1, Zb.out.1, Zc.out.1⟩ (fun hHeld2 => ?_)
  clear hK K hHeld; have hHeld := hHeld2; clear hHeld2
  try simp only [Act.put, List.setIfInBounds_toArray, List.set_cons_zero, List.set_cons_succ]
  refine sched_c2 rfl (fun K hK => ?_)
  go_simp
  go_at_call 7
  refine (pand_any _ _ la lb _ (Za.out.2) (Zb.out.2) (Nat.le_trans (Nat.mul_le_mul (BA.out) (BB.out)) (by decide)) (Nat.le_trans (BA.out) (by decide)) (Nat.le_trans (BB.out) (by decide)) (NA.out)).mono ?_
  rintro e wt11 ⟨vt11, ot11, rfl, hOt11, hvt11, -, hbt11⟩
  have HOt11 := Lib.hid hOt11
  have HVt11 := Lib.hid hvt11
  have Bdt11 := Lib.hid (show ot11.length ≤ 4096 from Nat.le_trans hOt11.2.2 (Nat.mul_le_mul (BA.out) (BB.out)))
  replace HVt9 := Lib.hid (HVt9.out.call hbt11)
  replace HVt10 := Lib.hid (HVt10.out.call hbt11)
  replace Za := Lib.hid (Za.out.call hbt11)
  replace Zb := Lib.hid (Zb.out.call hbt11)
  replace Zc := Lib.hid (Zc.out.call hbt11)
  replace HBW := Lib.hid (thenB HBW.out hbt11)
  clear hOt11 hvt11 hbt11
  try dsimp only
  refine hK.out _ _ ⟨Za.out.1, Zb.out.1, Zc.out.1⟩ (fun hHeld2 => ?_)
  clear hK K hHeld; have hHeld := hHeld2; clear hHeld2
  try simp only [Act.put, List.setIfInBounds_toArray, List.set_cons_zero, List.set_cons_succ]
  refine sched_c2 rfl (fun K hK => ?_)
  go_simp
  go_at_call 7
  refine (pand_any _ _ ot11 lc _ (HVt11.out) (Zc.out.2) (Nat.le_trans (Nat.mul_le_mul (Bdt11.out) (BC.out)) (by decide)) (Nat.le_trans (Bdt11.out) (by decide)) (Nat.le_trans (BC.out) (by decide)) (HOt11.out.1)).mono ?_
  rintro e wt12 ⟨vt12, ot12, rfl, hOt12, hvt12, -, hbt12⟩
  have HOt12 := Lib.hid hOt12
  have HVt12 := Lib.hid hvt12
  have Bdt12 := Lib.hid (show ot12.length ≤ 262144 from Nat.le_trans hOt12.2.2 (Nat.mul_le_mul (Bdt11.out) (BC.out)))
  replace HVt9 := Lib.hid (HVt9.out.call hbt12)
  replace HVt10 := Lib.hid (HVt10.out.call hbt12)
  replace HVt11 := Lib.hid (HVt11.out.call hbt12)
  replace Za := Lib.hid (Za.out.call hbt12)
  replace Zb := Lib.hid (Zb.out.call hbt12)
  replace Zc := Lib.hid (Zc.out.call hbt12)
  replace HBW := Lib.hid (thenB HBW.out hbt12)
  clear hOt12 hvt12 hbt12
  try dsimp only
  refine hK.out _ _ ⟨Za.out.1, Zb.out.1, Zc.out.1⟩ (fun hHeld2 => ?_)
  clear hK K hHeld; have hHeld := hHeld2; clear hHeld2
  try simp only [Act.put, List.setIfInBounds_toArray, List.set_cons_zero, List.set_cons_succ]
  refine sched_c2 rfl (fun K hK => ?_)
  go_simp
  go_at_call 10
  have hEQ := alg_3 NA.out NB.out NC.out HOt9.out HOt10.out HOt11.out HOt12.out
  have hY := HVt12.out
  have hX := HVt10.out
  rw [hEQ] at hX
  refine (eq_yes _ _ ot12 _ hX hY (Nat.le_trans (Bdt12.out) (by decide))).mono ?_
  rintro e wE3 ⟨rfl, hbE⟩
  replace Za := Lib.hid (Za.out.call hbE)
  replace Zb := Lib.hid (Zb.out.call hbE)
  replace Zc := Lib.hid (Zc.out.call hbE)
  replace HBW := Lib.hid (thenB HBW.out hbE)
  clear hbE hX hY hEQ
  clear HOt9 HVt9 Bdt9 HOt10 HVt10 Bdt10 HOt11 HVt11 Bdt11 HOt12 HVt12 Bdt12
  try dsimp only
  refine hK.out _ _ ⟨Za.out.1, Zb.out.1, Zc.out.1⟩ (fun hHeld2 => ?_)
  clear hK K hHeld; have hHeld := hHeld2; clear hHeld2
  try simp only [Act.put, List.setIfInBounds_toArray, List.set_cons_zero, List.set_cons_succ]
  refine sched_q2 (v := ?_) rfl (by rfl) ?_ ?_
  rotate_left
  · (intro w hSw; (try dsimp only at hSw); go_simp; (try with_reducible rfl))
  try simp only [Act.put, List.setIfInBounds_toArray, List.set_cons_zero, List.set_cons_succ]
  refine sched_q2 (v := ?_) rfl (by rfl) ?_ ?_
  rotate_left
  · (intro w hSw; (try dsimp only at hSw); go_simp; (try with_reducible rfl))
  try simp only [Act.put, List.setIfInBounds_toArray, List.set_cons_zero, List.set_cons_succ]
  refine sched_q2 (v := ?_) rfl (by rfl) ?_ ?_
  rotate_left
  · (intro w hSw; (try dsimp only at hSw); go_simp; (try with_reducible rfl))
  try simp only [Act.put, List.setIfInBounds_toArray, List.set_cons_zero, List.set_cons_succ]
  refine sched_q2 (v := ?_) rfl (by rfl) ?_ ?_
  rotate_left
  · (intro w hSw; (try dsimp only at hSw); go_simp; (try with_reducible rfl))
  try simp only [Act.put, List.setIfInBounds_toArray, List.set_cons_zero, List.set_cons_succ]
  refine sched_q2 (v := ?_) rfl (by rfl) ?_ ?_
  rotate_left
  · (intro w hSw; (try dsimp only at hSw); go_simp; (try with_reducible rfl))
  try simp only [Act.put, List.setIfInBounds_toArray, List.set_cons_zero, List.set_cons_succ]
  refine sched_q2 (v := ?_) rfl (by rfl) ?_ ?_
  rotate_left
  · (intro w hSw; (try dsimp only at hSw); go_simp; (try with_reducible rfl))
  try simp only [Act.put, List.setIfInBounds_toArray, List.set_cons_zero, List.set_cons_succ]
  refine sched_q2 (v := ?_) rfl (by rfl) ?_ ?_
  rotate_left
  · (intro w hSw; (try dsimp only at hSw); go_simp; (try with_reducible rfl))
  try simp only [Act.put, List.setIfInBounds_toArray, List.set_cons_zero, List.set_cons_succ]
  refine sched_q2 (v := ?_) rfl (by rfl) ?_ ?_
  rotate_left
  · (intro w hSw; (try dsimp only at hSw); go_simp; (try with_reducible rfl))
  try simp only [Act.put, List.setIfInBounds_toArray, List.set_cons_zero, List.set_cons_succ]
  refine sched_q2 (v := ?_) rfl (by rfl) ?_ ?_
  rotate_left
  · (intro w hSw; (try dsimp only at hSw); go_simp; (try with_reducible rfl))
  try simp only [Act.put, List.setIfInBounds_toArray, List.set_cons_zero, List.set_cons_succ]
  refine sched_q2 (v := ?_) rfl (by rfl) ?_ ?_
  rotate_left
  · (intro w hSw; (try dsimp only at hSw); go_simp; (try with_reducible rfl))
  try simp only [Act.put, List.setIfInBounds_toArray, List.set_cons_zero, List.set_cons_succ]
  refine sched_c2 rfl (fun K hK => ?_)
  go_simp
  go_at_call 6
  refine (por_any _ _ lb lc _ (Zb.out.2) (Zc.out.2) (Nat.le_trans (Nat.add_le_add (BB.out) (BC.out)) (by decide)) (NB.out) (NC.out)).mono ?_
  rintro e wt13 ⟨vt13, ot13, rfl, hOt13, hvt13, -, hbt13⟩
  have HOt13 := Lib.hid hOt13
  have HVt13 := Lib.hid hvt13
  have Bdt13 := Lib.hid (show ot13.length ≤ 128 from Nat.le_trans hOt13.2.2 (Nat.add_le_add (BB.out) (BC.out)))
  replace Za := Lib.hid (Za.out.call hbt13)
  replace Zb := Lib.hid (Zb.out.call hbt13)
  replace Zc := Lib.hid (Zc.out.call hbt13)
  replace HBW := Lib.hid (thenB HBW.out hbt13)
  clear hOt13 hvt13 hbt13
  try dsimp only
  refine hK.out _ _ ⟨Za.out.1, Zb.out.1, Zc.out.1⟩ (fun hHeld2 => ?_)
  clear hK K hHeld; have hHeld := hHeld2; clear hHeld2
  try simp only [Act.put, List.setIfInBounds_toArray, List.set_cons_zero, List.set_cons_succ]
  refine sched_c2 rfl (fun K hK => ?_)
  go_simp
  go_at_call 7
  refine (pand_any _ _ la ot13 _ (Za.out.2) (HVt13.out) (Nat.le_trans (Nat.mul_le_mul (BA.out) (Bdt13.out)) (by decide)) (Nat.le_trans (BA.out) (by decide)) (Nat.le_trans (Bdt13.out) (by decide)) (NA.out)).mono ?_
  rintro e wt14 ⟨vt14, ot14, rfl, hOt14, hvt14, -, hbt14⟩
  have HOt14 := Lib.hid hOt14
  have HVt14 := Lib.hid hvt14
  have Bdt14 := Lib.hid (show ot14.length ≤ 8192 from Nat.le_trans hOt14.2.2 (Nat.mul_le_mul (BA.out) (Bdt13.out)))
  replace HVt13 := Lib.hid (HVt13.out.call hbt14)
  replace Za := Lib.hid (Za.out.call hbt14)
  replace Zb := Lib.hid (Zb.out.call hbt14)
  replace Zc := Lib.hid (Zc.out.call hbt14)
  replace HBW := Lib.hid (thenB HBW.out hbt14)
  clear hOt14 hvt14 hbt14
  try dsimp only
  refine hK.out _ _ ⟨Za.out.1, Zb.out.1, Zc.out.1⟩ (fun hHeld2 => ?_)
  clear hK K hHeld; have hHeld := hHeld2; clear hHeld2
  try simp only [Act.put, List.setIfInBounds_toArray, List.set_cons_zero, List.set_cons_succ]
  refine sched_c2 rfl (fun K hK => ?_)
  go_simp
  go_at_call 7
  refine (pand_any _ _ la lb _ (Za.out.2) (Zb.out.2) (Nat.le_trans (Nat.mul_le_mul (BA.out) (BB.out)) (by decide)) (Nat.le_trans (BA.out) (by decide)) (Nat.le_trans (BB.out) (by decide)) (NA.out)).mono ?_
  rintro e wt15 ⟨vt15, ot15, rfl, hOt15, hvt15, -, hbt15⟩
  have HOt15 := Lib.hid hOt15
  have HVt15 := Lib.hid hvt15
  have Bdt15 := Lib.hid (show ot15.length ≤ 4096 from Nat.le_trans hOt15.2.2 (Nat.mul_le_mul (BA.out) (BB.out)))
  replace HVt13 := Lib.hid (HVt13.out.call hbt15)
  replace HVt14 := Lib.hid (HVt14.out.call hbt15)
  replace Za := Lib.hid (Za.out.call hbt15)
  replace Zb := Lib.hid (Zb.out.call hbt15)
  replace Zc := Lib.hid (Zc.out.call hbt15)
  replace HBW := Lib.hid (thenB HBW.out hbt15)
  clear hOt15 hvt15 hbt15
  try dsimp only
  refine hK.out _ _ ⟨Za.out.1, Zb.out.1, Zc.out.1⟩ (fun hHeld2 => ?_)
  clear hK K hHeld; have hHeld := hHeld2; clear hHeld2
  try simp only [Act.put, List.setIfInBounds_toArray, List.set_cons_zero, List.set_cons_succ]
  refine sched_c2 rfl (fun K hK => ?_)
  go_simp
  go_at_call 7
  refine (pand_any _ _ la lc _ (Za.out.2) (Zc.out.2) (Nat.le_trans (Nat.mul_le_mul (BA.out) (BC.out)) (by decide)) (Nat.le_trans (BA.out) (by decide)) (Nat.le_trans (BC.out) (by decide)) (NA.out)).mono ?_
  rintro e wt16 ⟨vt16, ot16, rfl, hOt16, hvt16, -, hbt16⟩
  have HOt16 := Lib.hid hOt16
  have HVt16 := Lib.hid hvt16
  have Bdt16 := Lib.hid (show ot16.length ≤ 4096 from Nat.le_trans hOt16.2.2 (Nat.mul_le_mul (BA.out) (BC.out)))
  replace HVt13 := Lib.hid (HVt13.out.call hbt16)
  replace HVt14 := Lib.hid (HVt14.out.call hbt16)
  replace HVt15 := Lib.hid (HVt15.out.call hbt16)
  replace Za := Lib.hid (Za.out.call hbt16)
  replace Zb := Lib.hid (Zb.out.call hbt16)
  replace Zc := Lib.hid (Zc.out.call hbt16)
  replace HBW := Lib.hid (thenB HBW.out hbt16)
  clear hOt16 hvt16 hbt16
  try dsimp only
  refine hK.out _ _ ⟨Za.out.1, Zb.out.1, Zc.out.1⟩ (fun hHeld2 => ?_)
  clear hK K hHeld; have hHeld := hHeld2; clear hHeld2
  try simp only [Act.put, List.setIfInBounds_toArray, List.set_cons_zero, List.set_cons_succ]
  refine sched_c2 rfl (fun K hK => ?_)
  go_simp
  go_at_call 6
  refine (por_any _ _ ot15 ot16 _ (HVt15.out) (HVt16.out) (Nat.le_trans (Nat.add_le_add (Bdt15.out) (Bdt16.out)) (by decide)) (HOt15.out.1) (HOt16.out.1)).mono ?_
  rintro e wt17 ⟨vt17, ot17, rfl, hOt17, hvt17, -, hbt17⟩
  have HOt17 := Lib.hid hOt17
  have HVt17 := Lib.hid hvt17
  have Bdt17 := Lib.hid (show ot17.length ≤ 8192 from Nat.le_trans hOt17.2.2 (Nat.add_le_add (Bdt15.out) (Bdt16.out)))
  replace HVt13 := Lib.hid (HVt13.out.call hbt17)
  replace HVt14 := Lib.hid (HVt14.out.call hbt17)
  replace HVt15 := Lib.hid (HVt15.out.call hbt17)
  replace HVt16 := Lib.hid (HVt16.out.call hbt17)
  replace Za := Lib.hid (Za.out.call hbt17)
  replace Zb := Lib.hid (Zb.out.call hbt17)
  replace Zc := Lib.hid (Zc.out.call hbt17)
  replace HBW := Lib.hid (thenB HBW.out hbt17)
  clear hOt17 hvt17 hbt17
  try dsimp only
  refine hK.out _ _ ⟨Za.out.1, Zb.out.1, Zc.out.1⟩ (fun hHeld2 => ?_)
  clear hK K hHeld; have hHeld := hHeld2; clear hHeld2
  try simp only [Act.put, List.setIfInBounds_toArray, List.set_cons_zero, List.set_cons_succ]
  refine sched_c2 rfl (fun K hK => ?_)
  go_simp
  go_at_call 10
  have hEQ := alg_4 NA.out NB.out NC.out HOt13.out HOt14.out HOt15.out HOt16.out HOt17.out
  have hY := HVt17.out
  have hX := HVt14.out
  rw [hEQ] at hX
  refine (eq_yes _ _ ot17 _ hX hY (Nat.le_trans (Bdt17.out) (by decide))).mono ?_
  rintro e wE4 ⟨rfl, hbE⟩
  replace Za := Lib.hid (Za.out.call hbE)
  replace Zb := Lib.hid (Zb.out.call hbE)
  replace Zc := Lib.hid (Zc.out.call hbE)
  replace HBW := Lib.hid (thenB HBW.out hbE)
  clear hbE hX hY hEQ
  clear HOt13 HVt13 Bdt13 HOt14 HVt14 Bdt14 HOt15 HVt15 Bdt15 HOt16 HVt16 Bdt16 HOt17 HVt17 Bdt17
  try dsimp only
  refine hK.out _ _ ⟨Za.out.1, Zb.out.1, Zc.out.1⟩ (fun hHeld2 => ?_)
  clear hK K hHeld; have hHeld := hHeld2; clear hHeld2
  try simp only [Act.put, List.setIfInBounds_toArray, List.set_cons_zero, List.set_cons_succ]
  refine sched_q2 (v := ?_) rfl (by rfl) ?_ ?_
  rotate_left
  · (intro w hSw; (try dsimp only at hSw); go_simp; (try with_reducible rfl))
  try simp only [Act.put, List.setIfInBounds_toArray, List.set_cons_zero, List.set_cons_succ]
  refine sched_q2 (v := ?_) rfl (by rfl) ?_ ?_
  rotate_left
  · (intro w hSw; (try dsimp only at hSw); go_simp; (try with_reducible rfl))
  try simp only [Act.put, List.setIfInBounds_toArray, List.set_cons_zero, List.set_cons_succ]
  refine sched_q2 (v := ?_) rfl (by rfl) ?_ ?_
  rotate_left
  · (intro w hSw; (try dsimp only at hSw); go_simp; (try with_reducible rfl))
  try simp only [Act.put, List.setIfInBounds_toArray, List.set_cons_zero, List.set_cons_succ]
  refine sched_q2 (v := ?_) rfl (by rfl) ?_ ?_
  rotate_left
  · (intro w hSw; (try dsimp only at hSw); go_simp; (try with_reducible rfl))
  try simp only [Act.put, List.setIfInBounds_toArray, List.set_cons_zero, List.set_cons_succ]
  refine sched_q2 (v := ?_) rfl (by rfl) ?_ ?_
  rotate_left
  · (intro w hSw; (try dsimp only at hSw); go_simp; (try with_reducible rfl))
  try simp only [Act.put, List.setIfInBounds_toArray, List.set_cons_zero, List.set_cons_succ]
  refine sched_q2 (v := ?_) rfl (by rfl) ?_ ?_
  rotate_left
  · (intro w hSw; (try dsimp only at hSw); go_simp; (try with_reducible rfl))
  try simp only [Act.put, List.setIfInBounds_toArray, List.set_cons_zero, List.set_cons_succ]
  refine sched_q2 (v := ?_) rfl (by rfl) ?_ ?_
  rotate_left
  · (intro w hSw; (try dsimp only at hSw); go_simp; (try with_reducible rfl))
  try simp only [Act.put, List.setIfInBounds_toArray, List.set_cons_zero, List.set_cons_succ]
  refine sched_q2 (v := ?_) rfl (by rfl) ?_ ?_
  rotate_left
  · (intro w hSw; (try dsimp only at hSw); go_simp; (try with_reducible rfl))
  try simp only [Act.put, List.setIfInBounds_toArray, List.set_cons_zero, List.set_cons_succ]
  refine sched_q2 (v := ?_) rfl (by rfl) ?_ ?_
  rotate_left
  · (intro w hSw; (try dsimp only at hSw); go_simp; (try with_reducible rfl))
  try simp only [Act.put, List.setIfInBounds_toArray, List.set_cons_zero, List.set_cons_succ]
  refine sched_q2 (v := ?_) rfl (by rfl) ?_ ?_
  rotate_left
  · (intro w hSw; (try dsimp only at hSw); go_simp; (try with_reducible rfl))
  try simp only [Act.put, List.setIfInBounds_toArray, List.set_cons_zero, List.set_cons_succ]
  refine sched_c2 rfl (fun K hK => ?_)
  go_simp
  go_at_call 7
  refine (pand_any _ _ lb lc _ (Zb.out.2) (Zc.out.2) (Nat.le_trans (Nat.mul_le_mul (BB.out) (BC.out)) (by decide)) (Nat.le_trans (BB.out) (by decide)) (Nat.le_trans (BC.out) (by decide)) (NB.out)).mono ?_
  rintro e wt18 ⟨vt18, ot18, rfl, hOt18, hvt18, -, hbt18⟩
  have HOt18 := Lib.hid hOt18
  have HVt18 := Lib.hid hvt18
  have Bdt18 := Lib.hid (show ot18.length ≤ 4096 from Nat.le_trans hOt18.2.2 (Nat.mul_le_mul (BB.out) (BC.out)))
  replace Za := Lib.hid (Za.out.call hbt18)
  replace Zb := Lib.hid (Zb.out.call hbt18)
  replace Zc := Lib.hid (Zc.out.call hbt18)
  replace HBW := Lib.hid (thenB HBW.out hbt18)
  clear hOt18 hvt18 hbt18
  try dsimp only
  refine hK.out _ _ ⟨Za.out.1, Zb.out.1, Zc.out.1⟩ (fun hHeld2 => ?_)
  clear hK K hHeld; have hHeld := hHeld2; clear hHeld2
  try simp only [Act.put, List.setIfInBounds_toArray, List.set_cons_zero, List.set_cons_succ]
  refine sched_c2 rfl (fun K hK => ?_)
  go_simp
  go_at_call 6
  refine (por_any _ _ la ot18 _ (Za.out.2) (HVt18.out) (Nat.le_trans (Nat.add_le_add (BA.out) (Bdt18.out)) (by decide)) (NA.out) (HOt18.out.1)).mono ?_
  rintro e wt19 ⟨vt19, ot19, rfl, hOt19, hvt19, -, hbt19⟩
  have HOt19 := Lib.hid hOt19
  have HVt19 := Lib.hid hvt19
  have Bdt19 := Lib.hid (show ot19.length ≤ 4160 from Nat.le_trans hOt19.2.2 (Nat.add_le_add (BA.out) (Bdt18.out)))
  replace HVt18 := Lib.hid (HVt18.out.call hbt19)
  replace Za := Lib.hid (Za.out.call hbt19)
  replace Zb := Lib.hid (Zb.out.call hbt19)
  replace Zc := Lib.hid (Zc.out.call hbt19)
  replace HBW := Lib.hid (thenB HBW.out hbt19)
  clear hOt19 hvt19 hbt19
  try dsimp only
  refine hK.out _ _ ⟨Za.out.1, Zb.out.1, Zc.out.1⟩ (fun hHeld2 => ?_)
  clear hK K hHeld; have hHeld := hHeld2; clear hHeld2
  try simp only [Act.put, List.setIfInBounds_toArray, List.set_cons_zero, List.set_cons_succ]
  refine sched_c2 rfl (fun K hK => ?_)
  go_simp
  go_at_call 6
  refine (por_any _ _ la lb _ (Za.out.2) (Zb.out.2) (Nat.le_trans (Nat.add_le_add (BA.out) (BB.out)) (by decide)) (NA.out) (NB.out)).mono ?_
  rintro e wt20 ⟨vt20, ot20, rfl, hOt20, hvt20, -, hbt20⟩
  have HOt20 := Lib.hid hOt20
  have HVt20 := Lib.hid hvt20
  have Bdt20 := Lib.hid (show ot20.length ≤ 128 from Nat.le_trans hOt20.2.2 (Nat.add_le_add (BA.out) (BB.out)))
  replace HVt18 := Lib.hid (HVt18.out.call hbt20)
  replace HVt19 := Lib.hid (HVt19.out.call hbt20)
  replace Za := Lib.hid (Za.out.call hbt20)
  replace Zb := Lib.hid (Zb.out.call hbt20)
  replace Zc := Lib.hid (Zc.out.call hbt20)
  replace HBW := Lib.hid (thenB HBW.out hbt20)
  clear hOt20 hvt20 hbt20
  try dsimp only
  refine hK.out _ _ ⟨Za.out.1, Zb.out.1, Zc.out.1⟩ (fun hHeld2 => ?_)
  clear hK K hHeld; have hHeld := hHeld2; clear hHeld2
  try simp only [Act.put, List.setIfInBounds_toArray, List.set_cons_zero, List.set_cons_succ]
  refine sched_c2 rfl (fun K hK => ?_)
  go_simp
  go_at_call 6
  refine (por_any _ _ la lc _ (Za.out.2) (Zc.out.2) (Nat.le_trans (Nat.add_le_add (BA.out) (BC.out)) (by decide)) (NA.out) (NC.out)).mono ?_
  rintro e wt21 ⟨vt21, ot21, rfl, hOt21, hvt21, -, hbt21⟩
  have HOt21 := Lib.hid hOt21
  have HVt21 := Lib.hid hvt21
  have Bdt21 := Lib.hid (show ot21.length ≤ 128 from Nat.le_trans hOt21.2.2 (Nat.add_le_add (BA.out) (BC.out)))
  replace HVt18 := Lib.hid (HVt18.out.call hbt21)
  replace HVt19 := Lib.hid (HVt19.out.call hbt21)
  replace HVt20 := Lib.hid (HVt20.out.call hbt21)
  replace Za := Lib.hid (Za.out.call hbt21)
  replace Zb := Lib.hid (Zb.out.call hbt21)
  replace Zc := Lib.hid (Zc.out.call hbt21)
  replace HBW := Lib.hid (thenB HBW.out hbt21)
  clear hOt21 hvt21 hbt21
  try dsimp only
  refine hK.out _ _ ⟨Za.out.1, Zb.out.1, Zc.out.1⟩ (fun hHeld2 => ?_)
  clear hK K hHeld; have hHeld := hHeld2; clear hHeld2
  try simp only [Act.put, List.setIfInBounds_toArray, List.set_cons_zero, List.set_cons_succ]
  refine sched_c2 rfl (fun K hK => ?_)
  go_simp
  go_at_call 7
  refine (pand_any _ _ ot20 ot21 _ (HVt20.out) (HVt21.out) (Nat.le_trans (Nat.mul_le_mul (Bdt20.out) (Bdt21.out)) (by decide)) (Nat.le_trans (Bdt20.out) (by decide)) (Nat.le_trans (Bdt21.out) (by decide)) (HOt20.out.1)).mono ?_
  rintro e wt22 ⟨vt22, ot22, rfl, hOt22, hvt22, -, hbt22⟩
  have HOt22 := Lib.hid hOt22
  have HVt22 := Lib.hid hvt22
  have Bdt22 := Lib.hid (show ot22.length ≤ 16384 from Nat.le_trans hOt22.2.2 (Nat.mul_le_mul (Bdt20.out) (Bdt21.out)))
  replace HVt18 := Lib.hid (HVt18.out.call hbt22)
  replace HVt19 := Lib.hid (HVt19.out.call hbt22)
  replace HVt20 := Lib.hid (HVt20.out.call hbt22)
  replace HVt21 := Lib.hid (HVt21.out.call hbt22)
  replace Za := Lib.hid (Za.out.call hbt22)
  replace Zb := Lib.hid (Zb.out.call hbt22)
  replace Zc := Lib.hid (Zc.out.call hbt22)
  replace HBW := Lib.hid (thenB HBW.out hbt22)
  clear hOt22 hvt22 hbt22
  try dsimp only
  refine hK.out _ _ ⟨Za.out.1, Zb.out.1, Zc.out.1⟩ (fun hHeld2 => ?_)
  clear hK K hHeld; have hHeld := hHeld2; clear hHeld2
  try simp only [Act.put, List.setIfInBounds_toArray, List.set_cons_zero, List.set_cons_succ]
  refine sched_c2 rfl (fun K hK => ?_)
  go_simp
  go_at_call 10
  have hEQ := alg_5 NA.out NB.out NC.out HOt18.out HOt19.out HOt20.out HOt21.out HOt22.out
  have hY := HVt22.out
  have hX := HVt19.out
  rw [hEQ] at hX
  refine (eq_yes _ _ ot22 _ hX hY (Nat.le_trans (Bdt22.out) (by decide))).mono ?_
  rintro e wE5 ⟨rfl, hbE⟩
  replace Za := Lib.hid (Za.out.call hbE)
  replace Zb := Lib.hid (Zb.out.call hbE)
  replace Zc := Lib.hid (Zc.out.call hbE)
  replace HBW := Lib.hid (thenB HBW.out hbE)
  clear hbE hX hY hEQ
  clear HOt18 HVt18 Bdt18 HOt19 HVt19 Bdt19 HOt20 HVt20 Bdt20 HOt21 HVt21 Bdt21 HOt22 HVt22 Bdt22
  try dsimp only
  refine hK.out _ _ ⟨Za.out.1, Zb.out.1, Zc.out.1⟩ (fun hHeld2 => ?_)
  clear hK K hHeld; have hHeld := hHeld2; clear hHeld2
  try simp only [Act.put, List.setIfInBounds_toArray, List.set_cons_zero, List.set_cons_succ]
  refine sched_q2 (v := ?_) rfl (by rfl) ?_ ?_
  rotate_left
  · (intro w hSw; (try dsimp only at hSw); go_simp; (try with_reducible rfl))
  try simp only [Act.put, List.setIfInBounds_toArray, List.set_cons_zero, List.set_cons_succ]
  refine sched_q2 (v := ?_) rfl (by rfl) ?_ ?_
  rotate_left
  · (intro w hSw; (try dsimp only at hSw); go_simp; (try with_reducible rfl))
  try simp only [Act.put, List.setIfInBounds_toArray, List.set_cons_zero, List.set_cons_succ]
  refine sched_q2 (v := ?_) rfl (by rfl) ?_ ?_
  rotate_left
  · (intro w hSw; (try dsimp only at hSw); go_simp; (try with_reducible rfl))
  try simp only [Act.put, List.setIfInBounds_toArray, List.set_cons_zero, List.set_cons_succ]
  refine sched_q2 (v := ?_) rfl (by rfl) ?_ ?_
  rotate_left
  · (intro w hSw; (try dsimp only at hSw); go_simp; (try with_reducible rfl))
  try simp only [Act.put, List.setIfInBounds_toArray, List.set_cons_zero, List.set_cons_succ]
  refine sched_q2 (v := ?_) rfl (by rfl) ?_ ?_
  rotate_left
  · (intro w hSw; (try dsimp only at hSw); go_simp; (try with_reducible rfl))
  try simp only [Act.put, List.setIfInBounds_toArray, List.set_cons_zero, List.set_cons_succ]
  refine sched_q2 (v := ?_) rfl (by rfl) ?_ ?_
  rotate_left
  · (intro w hSw; (try dsimp only at hSw); go_simp; (try with_reducible rfl))
  try simp only [Act.put, List.setIfInBounds_toArray, List.set_cons_zero, List.set_cons_succ]
  refine sched_q2 (v := ?_) rfl (by rfl) ?_ ?_
  rotate_left
  · (intro w hSw; (try dsimp only at hSw); go_simp; (try with_reducible rfl))
  try simp only [Act.put, List.setIfInBounds_toArray, List.set_cons_zero, List.set_cons_succ]
  refine sched_c2 rfl (fun K hK => ?_)
  go_simp
  go_at_call 6
  refine (por_any _ _ la lb _ (Za.out.2) (Zb.out.2) (Nat.le_trans (Nat.add_le_add (BA.out) (BB.out)) (by decide)) (NA.out) (NB.out)).mono ?_
  rintro e wt23 ⟨vt23, ot23, rfl, hOt23, hvt23, -, hbt23⟩
  have HOt23 := Lib.hid hOt23
  have HVt23 := Lib.hid hvt23
  have Bdt23 := Lib.hid (show ot23.length ≤ 128 from Nat.le_trans hOt23.2.2 (Nat.add_le_add (BA.out) (BB.out)))
  replace Za := Lib.hid (Za.out.call hbt23)
  replace Zb := Lib.hid (Zb.out.call hbt23)
  replace Zc := Lib.hid (Zc.out.call hbt23)
  replace HBW := Lib.hid (thenB HBW.out hbt23)
  clear hOt23 hvt23 hbt23
  try dsimp only
  refine hK.out _ _ ⟨Za.out.1, Zb.out.1, Zc.out.1⟩ (fun hHeld2 => ?_)
  clear hK K hHeld; have hHeld := hHeld2; clear hHeld2
  try simp only [Act.put, List.setIfInBounds_toArray, List.set_cons_zero, List.set_cons_succ]
  refine sched_c2 rfl (fun K hK => ?_)
  go_simp
  go_at_call 9
  refine (pnot_any _ ot23 _ (HVt23.out) (Nat.le_trans (Bdt23.out) (by decide)) (HOt23.out.1)).mono ?_
  rintro e wt24 ⟨vt24, ot24, rfl, hOt24, hvt24, -, hbt24⟩
  have HOt24 := Lib.hid hOt24
  have HVt24 := Lib.hid hvt24
  have Bdt24 := Lib.hid (show ot24.length ≤ 129 from Nat.le_trans hOt24.2.2 (Nat.succ_le_succ (Bdt23.out)))
  replace HVt23 := Lib.hid (HVt23.out.call hbt24)
  replace Za := Lib.hid (Za.out.call hbt24)
  replace Zb := Lib.hid (Zb.out.call hbt24)
  replace Zc := Lib.hid (Zc.out.call hbt24)
  replace HBW := Lib.hid (thenB HBW.out hbt24)
  clear hOt24 hvt24 hbt24
  try dsimp only
  refine hK.out _ _ ⟨Za.out.1, Zb.out.1, Zc.out.1⟩ (fun hHeld2 => ?_)
  clear hK K hHeld; have hHeld := hHeld2; clear hHeld2
  try simp only [Act.put, List.setIfInBounds_toArray, List.set_cons_zero, List.set_cons_succ]
  refine sched_c2 rfl (fun K hK => ?_)
  go_simp
  go_at_call 9
  refine (pnot_any _ la _ (Za.out.2) (Nat.le_trans (BA.out) (by decide)) (NA.out)).mono ?_
  rintro e wt25 ⟨vt25, ot25, rfl, hOt25, hvt25, -, hbt25⟩
  have HOt25 := Lib.hid hOt25
  have HVt25 := Lib.hid hvt25
  have Bdt25 := Lib.hid (show ot25.length ≤ 65 from Nat.le_trans hOt25.2.2 (Nat.succ_le_succ (BA.out)))
  replace HVt23 := Lib.hid (HVt23.out.call hbt25)
  replace HVt24 := Lib.hid (HVt24.out.call hbt25)
  replace Za := Lib.hid (Za.out.call hbt25)
  replace Zb := Lib.hid (Zb.out.call hbt25)
  replace Zc := Lib.hid (Zc.out.call hbt25)
  replace HBW := Lib.hid (thenB HBW.out hbt25)
  clear hOt25 hvt25 hbt25
  try dsimp only
  refine hK.out _ _ ⟨Za.out.1, Zb.out.1, Zc.out.1⟩ (fun hHeld2 => ?_)
  clear hK K hHeld; have hHeld := hHeld2; clear hHeld2
  try simp only [Act.put, List.setIfInBounds_toArray, List.set_cons_zero, List.set_cons_succ]
  refine sched_c2 rfl (fun K hK => ?_)
  go_simp
  go_at_call 9
  refine (pnot_any _ lb _ (Zb.out.2) (Nat.le_trans (BB.out) (by decide)) (NB.out)).mono ?_
  rintro e wt26 ⟨vt26, ot26, rfl, hOt26, hvt26, -, hbt26⟩
  have HOt26 := Lib.hid hOt26
  have HVt26 := Lib.hid hvt26
  have Bdt26 := Lib.hid (show ot26.length ≤ 65 from Nat.le_trans hOt26.2.2 (Nat.succ_le_succ (BB.out)))
  replace HVt23 := Lib.hid (HVt23.out.call hbt26)
  replace HVt24 := Lib.hid (HVt24.out.call hbt26)
  replace HVt25 := Lib.hid (HVt25.out.call hbt26)
  replace Za := Lib.hid (Za.out.call hbt26)
  replace Zb := Lib.hid (Zb.out.call hbt26)
  replace Zc := Lib.hid (Zc.out.call hbt26)
  replace HBW := Lib.hid (thenB HBW.out hbt26)
  clear hOt26 hvt26 hbt26
  try dsimp only
  refine hK.out _ _ ⟨Za.out.1, Zb.out.1, Zc.out.1⟩ (fun hHeld2 => ?_)
  clear hK K hHeld; have hHeld := hHeld2; clear hHeld2
  try simp only [Act.put, List.setIfInBounds_toArray, List.set_cons_zero, List.set_cons_succ]
  refine sched_c2 rfl (fun K hK => ?_)
  go_simp
  go_at_call 7
  refine (pand_any _ _ ot25 ot26 _ (HVt25.out) (HVt26.out) (Nat.le_trans (Nat.mul_le_mul (Bdt25.out) (Bdt26.out)) (by decide)) (Nat.le_trans (Bdt25.out) (by decide)) (Nat.le_trans (Bdt26.out) (by decide)) (HOt25.out.1)).mono ?_
  rintro e wt27 ⟨vt27, ot27, rfl, hOt27, hvt27, -, hbt27⟩
  have HOt27 := Lib.hid hOt27
  have HVt27 := Lib.hid hvt27
  have Bdt27 := Lib.hid (show ot27.length ≤ 4225 from Nat.le_trans hOt27.2.2 (Nat.mul_le_mul (Bdt25.out) (Bdt26.out)))
  replace HVt23 := Lib.hid (HVt23.out.call hbt27)
  replace HVt24 := Lib.hid (HVt24.out.call hbt27)
  replace HVt25 := Lib.hid (HVt25.out.call hbt27)
  replace HVt26 := Lib.hid (HVt26.out.call hbt27)
  replace Za := Lib.hid (Za.out.call hbt27)
  replace Zb := Lib.hid (Zb.out.call hbt27)
  replace Zc := Lib.hid (Zc.out.call hbt27)
  replace HBW := Lib.hid (thenB HBW.out hbt27)
  clear hOt27 hvt27 hbt27
  try dsimp only
  refine hK.out _ _ ⟨Za.out.1, Zb.out.1, Zc.out.1⟩ (fun hHeld2 => ?_)
  clear hK K hHeld; have hHeld := hHeld2; clear hHeld2
  try simp only [Act.put, List.setIfInBounds_toArray, List.set_cons_zero, List.set_cons_succ]
  refine sched_c2 rfl (fun K hK => ?_)
  go_simp
  go_at_call 10
  have hEQ := alg_6 NA.out NB.out NC.out HOt23.out HOt24.out HOt25.out HOt26.out HOt27.out
  have hY := HVt27.out
  have hX := HVt24.out
  rw [hEQ] at hX
  refine (eq_yes _ _ ot27 _ hX hY (Nat.le_trans (Bdt27.out) (by decide))).mono ?_
  rintro e wE6 ⟨rfl, hbE⟩
  replace Za := Lib.hid (Za.out.call hbE)
  replace Zb := Lib.hid (Zb.out.call hbE)
  replace Zc := Lib.hid (Zc.out.call hbE)
  replace HBW := Lib.hid (thenB HBW.out hbE)
  clear hbE hX hY hEQ
  clear HOt23 HVt23 Bdt23 HOt24 HVt24 Bdt24 HOt25 HVt25 Bdt25 HOt26 HVt26 Bdt26 HOt27 HVt27 Bdt27
  try dsimp only
  refine hK.out _ _ ⟨Za.out.1, Zb.out.1, Zc.out.1⟩ (fun hHeld2 => ?_)
  clear hK K hHeld; have hHeld := hHeld2; clear hHeld2
  try simp only [Act.put, List.setIfInBounds_toArray, List.set_cons_zero, List.set_cons_succ]
  refine sched_q2 (v := ?_) rfl (by rfl) ?_ ?_
  rotate_left
  · (intro w hSw; (try dsimp only at hSw); go_simp; (try with_reducible rfl))
  try simp only [Act.put, List.setIfInBounds_toArray, List.set_cons_zero, List.set_cons_succ]
  refine sched_q2 (v := ?_) rfl (by rfl) ?_ ?_
  rotate_left
  · (intro w hSw; (try dsimp only at hSw); go_simp; (try with_reducible rfl))
  try simp only [Act.put, List.setIfInBounds_toArray, List.set_cons_zero, List.set_cons_succ]
  refine sched_q2 (v := ?_) rfl (by rfl) ?_ ?_
  rotate_left
  · (intro w hSw; (try dsimp only at hSw); go_simp; (try with_reducible rfl))
  try simp only [Act.put, List.setIfInBounds_toArray, List.set_cons_zero, List.set_cons_succ]
  refine sched_q2 (v := ?_) rfl (by rfl) ?_ ?_
  rotate_left
  · (intro w hSw; (try dsimp only at hSw); go_simp; (try with_reducible rfl))
  try simp only [Act.put, List.setIfInBounds_toArray, List.set_cons_zero, List.set_cons_succ]
  refine sched_q2 (v := ?_) rfl (by rfl) ?_ ?_
  rotate_left
  · (intro w hSw; (try dsimp only at hSw); go_simp; (try with_reducible rfl))
  try simp only [Act.put, List.setIfInBounds_toArray, List.set_cons_zero, List.set_cons_succ]
  refine sched_c2 rfl (fun K hK => ?_)
  go_simp
  go_at_call 9
  refine (pnot_any _ la _ (Za.out.2) (Nat.le_trans (BA.out) (by decide)) (NA.out)).mono ?_
  rintro e wt28 ⟨vt28, ot28, rfl, hOt28, hvt28, -, hbt28⟩
  have HOt28 := Lib.hid hOt28
  have HVt28 := Lib.hid hvt28
  have Bdt28 := Lib.hid (show ot28.length ≤ 65 from Nat.le_trans hOt28.2.2 (Nat.succ_le_succ (BA.out)))
  replace Za := Lib.hid (Za.out.call hbt28)
  replace Zb := Lib.hid (Zb.out.call hbt28)
  replace Zc := Lib.hid (Zc.out.call hbt28)
  replace HBW := Lib.hid (thenB HBW.out hbt28)
  clear hOt28 hvt28 hbt28
  try dsimp only
  refine hK.out _ _ ⟨Za.out.1, Zb.out.1, Zc.out.1⟩ (fun hHeld2 => ?_)
  clear hK K hHeld; have hHeld := hHeld2; clear hHeld2
  try simp only [Act.put, List.setIfInBounds_toArray, List.set_cons_zero, List.set_cons_succ]
  refine sched_c2 rfl (fun K hK => ?_)
  go_simp
  go_at_call 9
  refine (pnot_any _ ot28 _ (HVt28.out) (Nat.le_trans (Bdt28.out) (by decide)) (HOt28.out.1)).mono ?_
  rintro e wt29 ⟨vt29, ot29, rfl, hOt29, hvt29, -, hbt29⟩
  have HOt29 := Lib.hid hOt29
  have HVt29 := Lib.hid hvt29
  have Bdt29 := Lib.hid (show ot29.length ≤ 66 from Nat.le_trans hOt29.2.2 (Nat.succ_le_succ (Bdt28.out)))
  replace HVt28 := Lib.hid (HVt28.out.call hbt29)
  replace Za := Lib.hid (Za.out.call hbt29)
  replace Zb := Lib.hid (Zb.out.call hbt29)
  replace Zc := Lib.hid (Zc.out.call hbt29)
  replace HBW := Lib.hid (thenB HBW.out hbt29)
  clear hOt29 hvt29 hbt29
  try dsimp only
  refine hK.out _ _ ⟨Za.out.1, Zb.out.1, Zc.out.1⟩ (fun hHeld2 => ?_)
  clear hK K hHeld; have hHeld := hHeld2; clear hHeld2
  try simp only [Act.put, List.setIfInBounds_toArray, List.set_cons_zero, List.set_cons_succ]
  refine sched_c2 rfl (fun K hK => ?_)
  go_simp
  go_at_call 10
  have hEQ := alg_7 NA.out NB.out NC.out HOt28.out HOt29.out
  have hY := Za.out.2
  have hX := HVt29.out
  rw [hEQ] at hX
  refine (eq_yes _ _ la _ hX hY (Nat.le_trans (BA.out) (by decide))).mono ?_
  rintro e wE7 ⟨rfl, hbE⟩
  replace Za := Lib.hid (Za.out.call hbE)
  replace Zb := Lib.hid (Zb.out.call hbE)
  replace Zc := Lib.hid (Zc.out.call hbE)
  replace HBW := Lib.hid (thenB HBW.out hbE)
  clear hbE hX hY hEQ
  clear HOt28 HVt28 Bdt28 HOt29 HVt29 Bdt29
  try dsimp only
  refine hK.out _ _ ⟨Za.out.1, Zb.out.1, Zc.out.1⟩ (fun hHeld2 => ?_)
  clear hK K hHeld; have hHeld := hHeld2; clear hHeld2
  try simp only [Act.put, List.setIfInBounds_toArray, List.set_cons_zero, List.set_cons_succ]
  refine sched_q2 (v := ?_) rfl (by rfl) ?_ ?_
  rotate_left
  · (intro w hSw; (try dsimp only at hSw); go_simp; (try with_reducible rfl))
  try simp only [Act.put, List.setIfInBounds_toArray, List.set_cons_zero, List.set_cons_succ]
  refine sched_q2 (v := ?_) rfl (by rfl) ?_ ?_
  rotate_left
  · (intro w hSw; (try dsimp only at hSw); go_simp; (try with_reducible rfl))
  try simp only [Act.put, List.setIfInBounds_toArray, List.set_cons_zero, List.set_cons_succ]
  refine sched_q2 (v := ?_) rfl (by rfl) ?_ ?_
  rotate_left
  · (intro w hSw; (try dsimp only at hSw); go_simp; (try with_reducible rfl))
  try simp only [Act.put, List.setIfInBounds_toArray, List.set_cons_zero, List.set_cons_succ]
  refine sched_q2 (v := ?_) rfl (by rfl) ?_ ?_
  rotate_left
  · (intro w hSw; (try dsimp only at hSw); go_simp; (try with_reducible rfl))
  try simp only [Act.put, List.setIfInBounds_toArray, List.set_cons_zero, List.set_cons_succ]
  refine sched_q2 (v := ?_) rfl (by rfl) ?_ ?_
  rotate_left
  · (intro w hSw; (try dsimp only at hSw); go_simp; (try with_reducible rfl))
  try simp only [Act.put, List.setIfInBounds_toArray, List.set_cons_zero, List.set_cons_succ]
  refine sched_c2 rfl (fun K hK => ?_)
  go_simp
  go_at_call 9
  refine (pnot_any _ la _ (Za.out.2) (Nat.le_trans (BA.out) (by decide)) (NA.out)).mono ?_
  rintro e wt30 ⟨vt30, ot30, rfl, hOt30, hvt30, -, hbt30⟩
  have HOt30 := Lib.hid hOt30
  have HVt30 := Lib.hid hvt30
  have Bdt30 := Lib.hid (show ot30.length ≤ 65 from Nat.le_trans hOt30.2.2 (Nat.succ_le_succ (BA.out)))
  replace Za := Lib.hid (Za.out.call hbt30)
  replace Zb := Lib.hid (Zb.out.call hbt30)
  replace Zc := Lib.hid (Zc.out.call hbt30)
  replace HBW := Lib.hid (thenB HBW.out hbt30)
  clear hOt30 hvt30 hbt30
  try dsimp only
  refine hK.out _ _ ⟨Za.out.1, Zb.out.1, Zc.out.1⟩ (fun hHeld2 => ?_)
  clear hK K hHeld; have hHeld := hHeld2; clear hHeld2
  try simp only [Act.put, List.setIfInBounds_toArray, List.set_cons_zero, List.set_cons_succ]
  refine sched_c2 rfl (fun K hK => ?_)
  go_simp
  go_at_call 7
  refine (pand_any _ _ la ot30 _ (Za.out.2) (HVt30.out) (Nat.le_trans (Nat.mul_le_mul (BA.out) (Bdt30.out)) (by decide)) (Nat.le_trans (BA.out) (by decide)) (Nat.le_trans (Bdt30.out) (by decide)) (NA.out)).mono ?_
  rintro e wt31 ⟨vt31, ot31, rfl, hOt31, hvt31, -, hbt31⟩
  have HOt31 := Lib.hid hOt31
  have HVt31 := Lib.hid hvt31
  have Bdt31 := Lib.hid (show ot31.length ≤ 4160 from Nat.le_trans hOt31.2.2 (Nat.mul_le_mul (BA.out) (Bdt30.out)))
  replace HVt30 := Lib.hid (HVt30.out.call hbt31)
  replace Za := Lib.hid (Za.out.call hbt31)
  replace Zb := Lib.hid (Zb.out.call hbt31)
  replace Zc := Lib.hid (Zc.out.call hbt31)
  replace HBW := Lib.hid (thenB HBW.out hbt31)
  clear hOt31 hvt31 hbt31
  try dsimp only
  refine hK.out _ _ ⟨Za.out.1, Zb.out.1, Zc.out.1⟩ (fun hHeld2 => ?_)
  clear hK K hHeld; have hHeld := hHeld2; clear hHeld2
  try simp only [Act.put, List.setIfInBounds_toArray, List.set_cons_zero, List.set_cons_succ]
  refine sched_c2 rfl (fun K hK => ?_)
  go_simp
  go_at_call 4
  refine (ptimes_any (.slice none 0 0) [] _ (IvS.nil _) (by simp)).mono ?_
  rintro e wt32 ⟨vt32, ot32, rfl, hOt32, hvt32, -, hbt32⟩
  have HOt32 := Lib.hid hOt32
  have HVt32 := Lib.hid hvt32
  have Bdt32 := Lib.hid (show ot32.length ≤ 0 from hOt32.len)
  replace HVt30 := Lib.hid (HVt30.out.call hbt32)
  replace HVt31 := Lib.hid (HVt31.out.call hbt32)
  replace Za := Lib.hid (Za.out.call hbt32)
  replace Zb := Lib.hid (Zb.out.call hbt32)
  replace Zc := Lib.hid (Zc.out.call hbt32)
  replace HBW := Lib.hid (thenB HBW.out hbt32)
  clear hOt32 hvt32 hbt32
  try dsimp only
  refine hK.out _ _ ⟨Za.out.1, Zb.out.1, Zc.out.1⟩ (fun hHeld2 => ?_)
  clear hK K hHeld; have hHeld := hHeld2; clear hHeld2
  try simp only [Act.put, List.setIfInBounds_toArray, List.set_cons_zero, List.set_cons_succ]
  refine sched_c2 rfl (fun K hK => ?_)
  go_simp
  go_at_call 10
  have hEQ := alg_8 NA.out NB.out NC.out HOt30.out HOt31.out HOt32.out
  have hY := HVt32.out
  have hX := HVt31.out
  rw [hEQ] at hX
  refine (eq_yes _ _ ot32 _ hX hY (Nat.le_trans (Bdt32.out) (by decide))).mono ?_
  rintro e wE8 ⟨rfl, hbE⟩
  replace Za := Lib.hid (Za.out.call hbE)
  replace Zb := Lib.hid (Zb.out.call hbE)
  replace Zc := Lib.hid (Zc.out.call hbE)
  replace HBW := Lib.hid (thenB HBW.out hbE)
  clear hbE hX hY hEQ
  clear HOt30 HVt30 Bdt30 HOt31 HVt31 Bdt31 HOt32 HVt32 Bdt32
  try dsimp only
  refine hK.out _ _ ⟨Za.out.1, Zb.out.1, Zc.out.1⟩ (fun hHeld2 => ?_)
  clear hK K hHeld; have hHeld := hHeld2; clear hHeld2
  try simp only [Act.put, List.setIfInBounds_toArray, List.set_cons_zero, List.set_cons_succ]
  refine sched_q2 (v := ?_) rfl (by rfl) ?_ ?_
  rotate_left
  · (intro w hSw; (try dsimp only at hSw); go_simp; (try with_reducible rfl))
  try simp only [Act.put, List.setIfInBounds_toArray, List.set_cons_zero, List.set_cons_succ]
  refine sched_q2 (v := ?_) rfl (by rfl) ?_ ?_
  rotate_left
  · (intro w hSw; (try dsimp only at hSw); go_simp; (try with_reducible rfl))
  try simp only [Act.put, List.setIfInBounds_toArray, List.set_cons_zero, List.set_cons_succ]
  refine sched_q2 (v := ?_) rfl (by rfl) ?_ ?_
  rotate_left
  · (intro w hSw; (try dsimp only at hSw); go_simp; (try with_reducible rfl))
  try simp only [Act.put, List.setIfInBounds_toArray, List.set_cons_zero, List.set_cons_succ]
  refine sched_q2 (v := ?_) rfl (by rfl) ?_ ?_
  rotate_left
  · (intro w hSw; (try dsimp only at hSw); go_simp; (try with_reducible rfl))
  try simp only [Act.put, List.setIfInBounds_toArray, List.set_cons_zero, List.set_cons_succ]
  refine sched_q2 (v := ?_) rfl (by rfl) ?_ ?_
  rotate_left
  · (intro w hSw; (try dsimp only at hSw); go_simp; (try with_reducible rfl))
  try simp only [Act.put, List.setIfInBounds_toArray, List.set_cons_zero, List.set_cons_succ]
  refine sched_q2 (v := ?_) rfl (by rfl) ?_ ?_
  rotate_left
  · (intro w hSw; (try dsimp only at hSw); go_simp; (try with_reducible rfl))
  try simp only [Act.put, List.setIfInBounds_toArray, List.set_cons_zero, List.set_cons_succ]
  refine sched_q2 (v := ?_) rfl (by rfl) ?_ ?_
  rotate_left
  · (intro w hSw; (try dsimp only at hSw); go_simp; (try with_reducible rfl))
  try simp only [Act.put, List.setIfInBounds_toArray, List.set_cons_zero, List.set_cons_succ]
  refine sched_c2 rfl (fun K hK => ?_)
  go_simp
  go_at_call 7
  refine (pand_any _ _ la lb _ (Za.out.2) (Zb.out.2) (Nat.le_trans (Nat.mul_le_mul (BA.out) (BB.out)) (by decide)) (Nat.le_trans (BA.out) (by decide)) (Nat.le_trans (BB.out) (by decide)) (NA.out)).mono ?_
  rintro e wt33 ⟨vt33, ot33, rfl, hOt33, hvt33, -, hbt33⟩
  have HOt33 := Lib.hid hOt33
  have HVt33 := Lib.hid hvt33
  have Bdt33 := Lib.hid (show ot33.length ≤ 4096 from Nat.le_trans hOt33.2.2 (Nat.mul_le_mul (BA.out) (BB.out)))
  replace Za := Lib.hid (Za.out.call hbt33)
  replace Zb := Lib.hid (Zb.out.call hbt33)
  replace Zc := Lib.hid (Zc.out.call hbt33)
  replace HBW := Lib.hid (thenB HBW.out hbt33)
  clear hOt33 hvt33 hbt33
  try dsimp only
  refine hK.out _ _ ⟨Za.out.1, Zb.out.1, Zc.out.1⟩ (fun hHeld2 => ?_)
  clear hK K hHeld; have hHeld := hHeld2; clear hHeld2
  try simp only [Act.put, List.setIfInBounds_toArray, List.set_cons_zero, List.set_cons_succ]
  refine sched_c2 rfl (fun K hK => ?_)
  go_simp
  go_at_call 6
  refine (por_any _ _ la ot33 _ (Za.out.2) (HVt33.out) (Nat.le_trans (Nat.add_le_add (BA.out) (Bdt33.out)) (by decide)) (NA.out) (HOt33.out.1)).mono ?_
  rintro e wt34 ⟨vt34, ot34, rfl, hOt34, hvt34, -, hbt34⟩
  have HOt34 := Lib.hid hOt34
  have HVt34 := Lib.hid hvt34
  have Bdt34 := Lib.hid (show ot34.length ≤ 4160 from Nat.le_trans hOt34.2.2 (Nat.add_le_add (BA.out) (Bdt33.out)))
  replace HVt33 := Lib.hid (HVt33.out.call hbt34)
  replace Za := Lib.hid (Za.out.call hbt34)
  replace Zb := Lib.hid (Zb.out.call hbt34)
  replace Zc := Lib.hid (Zc.out.call hbt34)
  replace HBW := Lib.hid (thenB HBW.out hbt34)
  clear hOt34 hvt34 hbt34
  try dsimp only
  refine hK.out _ _ ⟨Za.out.1, Zb.out.1, Zc.out.1⟩ (fun hHeld2 => ?_)
  clear hK K hHeld; have hHeld := hHeld2; clear hHeld2
  try simp only [Act.put, List.setIfInBounds_toArray, List.set_cons_zero, List.set_cons_succ]
  refine sched_c2 rfl (fun K hK => ?_)
  go_simp
  go_at_call 10
  have hEQ := alg_9 NA.out NB.out NC.out HOt33.out HOt34.out
  have hY := Za.out.2
  have hX := HVt34.out
  rw [hEQ] at hX
  refine (eq_yes _ _ la _ hX hY (Nat.le_trans (BA.out) (by decide))).mono ?_
  rintro e wE9 ⟨rfl, hbE⟩
  replace Za := Lib.hid (Za.out.call hbE)
  replace Zb := Lib.hid (Zb.out.call hbE)
  replace Zc := Lib.hid (Zc.out.call hbE)
  replace HBW := Lib.hid (thenB HBW.out hbE)
  clear hbE hX hY hEQ
  clear HOt33 HVt33 Bdt33 HOt34 HVt34 Bdt34
  try dsimp only
  refine hK.out _ _ ⟨Za.out.1, Zb.out.1, Zc.out.1⟩ (fun hHeld2 => ?_)
  clear hK K hHeld; have hHeld := hHeld2; clear hHeld2
  try simp only [Act.put, List.setIfInBounds_toArray, List.set_cons_zero, List.set_cons_succ]
  refine sched_q2 (v := ?_) rfl (by rfl) ?_ ?_
  rotate_left
  · (intro w hSw; (try dsimp only at hSw); go_simp; (try with_reducible rfl))
  try simp only [Act.put, List.setIfInBounds_toArray, List.set_cons_zero, List.set_cons_succ]
  refine sched_q2 (v := ?_) rfl (by rfl) ?_ ?_
  rotate_left
  · (intro w hSw; (try dsimp only at hSw); go_simp; (try with_reducible rfl))
  try simp only [Act.put, List.setIfInBounds_toArray, List.set_cons_zero, List.set_cons_succ]
  exact ⟨by kernel_rfl, rfl, HBW.out⟩
end Go.Proofs.Ytikhjlankomghaa