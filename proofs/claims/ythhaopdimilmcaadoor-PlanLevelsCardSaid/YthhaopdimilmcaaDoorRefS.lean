/- The document's Late: where a span is made sooner. -/
import Derived.Test.YthhaopdimilmcaaDoorRefF
namespace Go.Proofs.YthhaopdimilmcaaDoor
open Go.RowKit
def findRegion (id : Nat) : Code → Option Code
  | .region i ops d => if i = id then some (.region i ops d) else none
  | .loop c => findRegion id c
  | .seq a b => match findRegion id a with
    | some c => some c
    | none => findRegion id b
  | .block _ c => findRegion id c
  | .scope c => findRegion id c
  | .cond _ a b => match findRegion id a with
    | some c => some c
    | none => findRegion id b
  | _ => none
/-- The post that asks for the common way out, and for no other. -/
def OnlyN (K : Act → World → Prop) : Exit → Act → World → Prop
  | .normal, a, w => K a w
  | _, _, _ => False
noncomputable def code32 : Code := ((Tryd.f19.body.bind (findRegion 32)).getD .skip)
def Post32 (B n c2 X z : Nat) (N ZF ZT : Int) (w : World) (u0 u1 u2 u3 u4 u5 u6 u7 u9 u10 u11 u12 u15 u16 u17 u18 u19 u20 u21 u22 u23 u24 u25 u26 u27 u28 u29 u30 u31 u32 u33 u34 u35 u36 u37 u38 u39 u40 u41 u42 u43 u44 u45 u46 u47 u48 u49 u50 u51 u52 u53 u54 u55 u56 u57 u58 u59 u60 u61 u62 u63 u64 u65 u66 u67 u68 u69 u70 u71 u72 u73 u74 u75 u76 u77 u78 u79 u80 u81 u82 u83 u84 u85 u86 u87 u88 u89 u90 u91 u92 u93 u94 u95 u96 u97 u98 u99 u100 u101 u102 u103 u104 u105 u106 u107 u108 u109 u110 u111 u112 u113 u114 u115 u116 u117 u118 u119 u120 u121 u122 u123 u124 u125 u126 u127 u128 u129 u130 u131 u132 u133 u134 u135 u136 u137 u138 u139 u140 u141 u142 u143 u144 u171 u172 : Value) (a : Act) (w' : World) : Prop := ∃ v145 v146 v147 v148 v149 v150 v151 v152 v153 v154 v155 v156 v157 v158 v159 v160 v161 v162 v163 v164 v165 v166 v167 v168 v169 v170 : Value, a = ⟨#[u0, u1, u2, u3, u4, u5, u6, u7, .slice (some ⟨B, 0, none⟩) n c2, u9, u10, u11, u12, .pointer (some ⟨X, 0, none⟩), .int .i64 N, u15, u16, u17, u18, u19, u20, u21, u22, u23, u24, u25, u26, u27, u28, u29, u30, u31, u32, u33, u34, u35, u36, u37, u38, u39, u40, u41, u42, u43, u44, u45, u46, u47, u48, u49, u50, u51, u52, u53, u54, u55, u56, u57, u58, u59, u60, u61, u62, u63, u64, u65, u66, u67, u68, u69, u70, u71, u72, u73, u74, u75, u76, u77, u78, u79, u80, u81, u82, u83, u84, u85, u86, u87, u88, u89, u90, u91, u92, u93, u94, u95, u96, u97, u98, u99, u100, u101, u102, u103, u104, u105, u106, u107, u108, u109, u110, u111, u112, u113, u114, u115, u116, u117, u118, u119, u120, u121, u122, u123, u124, u125, u126, u127, u128, u129, u130, u131, u132, u133, u134, u135, u136, u137, u138, u139, u140, u141, u142, u143, u144, v145, v146, v147, v148, v149, v150, v151, v152, v153, v154, v155, v156, v157, v158, v159, v160, v161, v162, v163, v164, v165, v166, v167, v168, v169, v170, u171, u172], []⟩ ∧ w' = (((w.setCell ⟨B, z * 2, none⟩ (.int .i64 (ZF - N))).setCell ⟨B, z * 2 + 1, none⟩ (.int .i64 (ZT - N))).drew)
set_option maxRecDepth 1000000 in
set_option maxHeartbeats 16000000 in
theorem store32 (B n c2 X z : Nat) (N ZF ZT : Int) (w : World) {u0 u1 u2 u3 u4 u5 u6 u7 u9 u10 u11 u12 u15 u16 u17 u18 u19 u20 u21 u22 u23 u24 u25 u26 u27 u28 u29 u30 u31 u32 u33 u34 u35 u36 u37 u38 u39 u40 u41 u42 u43 u44 u45 u46 u47 u48 u49 u50 u51 u52 u53 u54 u55 u56 u57 u58 u59 u60 u61 u62 u63 u64 u65 u66 u67 u68 u69 u70 u71 u72 u73 u74 u75 u76 u77 u78 u79 u80 u81 u82 u83 u84 u85 u86 u87 u88 u89 u90 u91 u92 u93 u94 u95 u96 u97 u98 u99 u100 u101 u102 u103 u104 u105 u106 u107 u108 u109 u110 u111 u112 u113 u114 u115 u116 u117 u118 u119 u120 u121 u122 u123 u124 u125 u126 u127 u128 u129 u130 u131 u132 u133 u134 u135 u136 u137 u138 u139 u140 u141 u142 u143 u144 u145 u146 u147 u148 u149 u150 u151 u152 u153 u154 u155 u156 u157 u158 u159 u160 u161 u162 u163 u164 u165 u166 u167 u168 u169 u170 u171 u172 : Value}
    (hz : z < n) (hX : w.cell? ⟨X, 0, none⟩ = some (.int .i64 (z : Int))) (h0 : w.cell? ⟨B, z * 2, none⟩ = some (.int .i64 ZF)) (h1 : w.cell? ⟨B, z * 2 + 1, none⟩ = some (.int .i64 ZT)) (f0 : w.frozen? ⟨B, z * 2, none⟩ = false) (f1 : w.frozen? ⟨B, z * 2 + 1, none⟩ = false)
    (hb : (-9000000000000 ≤ N ∧ N ≤ 9000000000000) ∧ (-9000000000000 ≤ ZF ∧ ZF ≤ 9000000000000) ∧ -9000000000000 ≤ ZT ∧ ZT ≤ 9000000000000) (hXB : B < X) :
    Code.wp Tryd.prog code32 (OnlyN (Post32 B n c2 X z N ZF ZT w u0 u1 u2 u3 u4 u5 u6 u7 u9 u10 u11 u12 u15 u16 u17 u18 u19 u20 u21 u22 u23 u24 u25 u26 u27 u28 u29 u30 u31 u32 u33 u34 u35 u36 u37 u38 u39 u40 u41 u42 u43 u44 u45 u46 u47 u48 u49 u50 u51 u52 u53 u54 u55 u56 u57 u58 u59 u60 u61 u62 u63 u64 u65 u66 u67 u68 u69 u70 u71 u72 u73 u74 u75 u76 u77 u78 u79 u80 u81 u82 u83 u84 u85 u86 u87 u88 u89 u90 u91 u92 u93 u94 u95 u96 u97 u98 u99 u100 u101 u102 u103 u104 u105 u106 u107 u108 u109 u110 u111 u112 u113 u114 u115 u116 u117 u118 u119 u120 u121 u122 u123 u124 u125 u126 u127 u128 u129 u130 u131 u132 u133 u134 u135 u136 u137 u138 u139 u140 u141 u142 u143 u144 u171 u172)) ⟨#[u0, u1, u2, u3, u4, u5, u6, u7, .slice (some ⟨B, 0, none⟩) n c2, u9, u10, u11, u12, .pointer (some ⟨X, 0, none⟩), .int .i64 N, u15, u16, u17, u18, u19, u20, u21, u22, u23, u24, u25, u26, u27, u28, u29, u30, u31, u32, u33, u34, u35, u36, u37, u38, u39, u40, u41, u42, u43, u44, u45, u46, u47, u48, u49, u50, u51, u52, u53, u54, u55, u56, u57, u58, u59, u60, u61, u62, u63, u64, u65, u66, u67, u68, u69, u70, u71, u72, u73, u74, u75, u76, u77, u78, u79, u80, u81, u82, u83, u84, u85, u86, u87, u88, u89, u90, u91, u92, u93, u94, u95, u96, u97, u98, u99, u100, u101, u102, u103, u104, u105, u106, u107, u108, u109, u110, u111, u112, u113, u114, u115, u116, u117, u118, u119, u120, u121, u122, u123, u124, u125, u126, u127, u128, u129, u130, u131, u132, u133, u134, u135, u136, u137, u138, u139, u140, u141, u142, u143, u144, u145, u146, u147, u148, u149, u150, u151, u152, u153, u154, u155, u156, u157, u158, u159, u160, u161, u162, u163, u164, u165, u166, u167, u168, u169, u170, u171, u172], []⟩ w := by
  have j1 : (0 : Int) ≤ (z : Int) := by omega
  have j2 : (z : Int) < (n : Int) := by omega
  obtain ⟨⟨b1, b2⟩, ⟨b3, b4⟩, b5, b6⟩ := hb
  conv => arg 2; whnf
  conv => arg 4; dsimp only
  go_big_region
  exact ⟨_, _, _, _, _, _, _, _, _, _, _, _, _, _, _, _, _, _, _, _, _, _, _, _, _, _, rfl, rfl⟩
end Go.Proofs.YthhaopdimilmcaaDoor
