/- The walk of UpdateSteps: region 25, by itself. (Printed by reg_gen.py.) -/
import Derived.Test.YtaeeflfhjmjpjaaUstp
import Derived.Test.YtaeeflfhjmjpjaaUrule
namespace Go.Proofs.Ytaeeflfhjmjpjaa
open Go.RowKit SlRd
set_option linter.unusedVariables false

/-- the region of that number in the code, if it is there -/
def regOf (n : Nat) : Code → Option Code
  | .region id l d => if id = n then some (.region id l d) else none
  | .loop c => regOf n c
  | .seq a b => match regOf n a with
    | some c => some c
    | none => regOf n b
  | .block _ c => regOf n c
  | .scope c => regOf n c
  | .cond _ a b => match regOf n a with
    | some c => some c
    | none => regOf n b
  | _ => none
noncomputable def R25 : Code := (Try.f10.body.bind (regOf 25)).getD .skip

set_option maxRecDepth 1000000 in
set_option maxHeartbeats 6400000 in
theorem region25_4 {u0 u1 u2 u3 u4 u5 u8 u9 u10 u11 u14 u17 u18 u19 u21 u22 u23 u24 u25 u26 u27 u28 u29 u30 u31 u32 u33 u34 u35 u36 u37 u38 u39 u40 u41 u42 u43 u44 u45 u46 u47 u48 u49 u50 u51 u52 u53 u54 u55 u56 u57 u58 u59 u60 u61 u62 u63 u64 u65 u66 u67 u68 u69 u70 u71 u72 u73 u74 u75 u76 u77 u78 u79 u80 u81 u82 u83 u84 u85 u86 u87 u88 u89 u90 u91 u92 u93 u94 u95 u96 u97 u98 u99 u100 u101 u102 u103 u104 u105 u106 u107 u108 u109 u110 u111 u112 u113 u114 u115 u116 u117 u118 u119 u120 u121 u122 u123 u124 u125 u126 u127 u128 u129 u130 u131 u132 u133 u134 u135 u136 u137 u138 u139 u140 u141 u142 u143 u144 u145 u146 u147 u148 u149 u150 u151 u152 u153 u154 u155 u156 u157 u158 u159 u160 u161 u162 u163 u164 u165 u166 u167 u168 u169 u170 u171 u172 u173 u174 u175 u176 u177 u178 u179 u180 u181 u182 u183 u184 u185 u186 u187 u188 u189 u190 u191 u192 u193 u194 u195 u196 u197 u198 u199 u200 u201 u202 u203 u204 u205 u206 u207 u208 u209 u210 u211 u212 u213 u214 u215 u216 u217 u218 u219 u220 u221 u222 u223 u224 u225 u226 u227 u228 u229 u230 u231 u232 u233 u234 u235 u236 u237 u238 u239 u240 u241 u242 u243 u244 u245 u246 u247 u248 u249 u250 u251 u252 u253 u254 u255 u256 u257 u258 u259 u260 u261 u262 u263 u264 u265 u266 u267 : Value}
    {N : Type} {f : N → World} {n0 : N} {wr : World} {Q0 : Exit → Act → World → Prop} {c : Code} {S E Q m : Int} {pb : ByteArray} {T O D g1 g2 L c1 c2 j ci : Nat}
    (hc : R25 = c) (hNe : Nonempty N) (HF0 : Hid (({ wr with drawn := wr.drawn + 1 } : World) = f n0)) (HF2 : Hid (∀ n w', Below (f n).heap.size (f n) w' → ∃ m, w' = f m))
    (HZN : ∀ n, (f n).cell? ⟨g1, j, none⟩ = some (.int .i64 ci) ∧ ∀ i, i < 9 → (f n).cell? ⟨g2, j * 9 + i, none⟩ = (⟨4, S, E, Q, m, 0, ⟨0, 0⟩, pb⟩ : Ak).cs[i]?)
    (y1 : ∀ n, (f n).cell? ⟨O, ci, none⟩ = some (.bool false))
    (HXN : ∀ n, (f n).cell? ⟨T, 0, none⟩ = some (.int .i64 E) ∧ (f n).cell? ⟨T, 1, none⟩ = some (.int .i64 Q))
    (i1 : (ci : Int) < 6) (i3 : (j : Int) < (L : Int))
    (R4 : Hid (∀ W, Calls Try.prog 32 #[(⟨4, S, E, Q, m, 0, ⟨0, 0⟩, pb⟩ : Ak).v] W fun e w' => e = .returned (.bool true) ∧ Below W.heap.size W w'))
    (hQ : ∀ n v124 v125 v126 v127 v128 v129 v130 v131 v132 v133 v134 v135 v136 v137 v138 v139 v140 v141 v142 v143 v144 v145 v146 v147 v148 v149 v150 v151 v152 v153 v154 v155 v156 v157 v158 v159 v160 v161 v162 v163 v164 v165 v166 v167 v168 v169 v170 v171 v172 v173 v174 v175 v176 v177 v178 v179 v180 v181 v182 v183 v184 v185 v186 v187 v188 v189 v190 v191 v192 v193 v194 v195 v196 v197 v198 v199 v200 v201, Q0 .normal ⟨#[u0, u1, u2, u3, u4, u5, .int .i64 S, .pointer (some ⟨T, 0, none⟩), u8, u9, u10, u11, .pointer (some ⟨O, 0, none⟩), .pointer (some ⟨D, 0, none⟩), u14, .slice (some ⟨g1, 0, none⟩) L c1, .slice (some ⟨g2, 0, none⟩) L c2, u17, u18, u19, .int .i64 (j : Int), u21, u22, u23, u24, u25, u26, u27, u28, u29, u30, u31, u32, u33, u34, u35, u36, u37, u38, u39, u40, u41, u42, u43, u44, u45, u46, u47, u48, u49, u50, u51, u52, u53, u54, u55, u56, u57, u58, u59, u60, u61, u62, u63, u64, u65, u66, u67, u68, u69, u70, u71, u72, u73, u74, u75, u76, u77, u78, u79, u80, u81, u82, u83, u84, u85, u86, u87, u88, u89, u90, u91, u92, u93, u94, u95, u96, u97, u98, u99, u100, u101, u102, u103, u104, u105, u106, u107, u108, u109, u110, u111, u112, u113, u114, u115, u116, u117, u118, u119, u120, u121, u122, u123, v124, v125, v126, v127, v128, v129, v130, v131, v132, v133, v134, v135, v136, v137, v138, v139, v140, v141, v142, v143, v144, v145, v146, v147, v148, v149, v150, v151, v152, v153, v154, v155, v156, v157, v158, v159, v160, v161, v162, v163, v164, v165, v166, v167, v168, v169, v170, v171, v172, v173, v174, v175, v176, v177, v178, v179, v180, v181, v182, v183, v184, v185, v186, v187, v188, v189, v190, v191, v192, v193, v194, v195, v196, v197, v198, v199, v200, v201, .bool false, u203, u204, u205, u206, u207, u208, u209, u210, u211, u212, u213, u214, u215, u216, u217, u218, u219, u220, u221, u222, u223, u224, u225, u226, u227, u228, u229, u230, u231, u232, u233, u234, u235, u236, u237, u238, u239, u240, u241, u242, u243, u244, u245, u246, u247, u248, u249, u250, u251, u252, u253, u254, u255, u256, u257, u258, u259, u260, u261, u262, u263, u264, u265, u266, u267], []⟩ (f n)) :
    c.wp Try.prog Q0 ⟨#[u0, u1, u2, u3, u4, u5, .int .i64 S, .pointer (some ⟨T, 0, none⟩), u8, u9, u10, u11, .pointer (some ⟨O, 0, none⟩), .pointer (some ⟨D, 0, none⟩), u14, .slice (some ⟨g1, 0, none⟩) L c1, .slice (some ⟨g2, 0, none⟩) L c2, u17, u18, u19, .int .i64 (j : Int), u21, u22, u23, u24, u25, u26, u27, u28, u29, u30, u31, u32, u33, u34, u35, u36, u37, u38, u39, u40, u41, u42, u43, u44, u45, u46, u47, u48, u49, u50, u51, u52, u53, u54, u55, u56, u57, u58, u59, u60, u61, u62, u63, u64, u65, u66, u67, u68, u69, u70, u71, u72, u73, u74, u75, u76, u77, u78, u79, u80, u81, u82, u83, u84, u85, u86, u87, u88, u89, u90, u91, u92, u93, u94, u95, u96, u97, u98, u99, u100, u101, u102, u103, u104, u105, u106, u107, u108, u109, u110, u111, u112, u113, u114, u115, u116, u117, u118, u119, u120, u121, u122, u123, u124, u125, u126, u127, u128, u129, u130, u131, u132, u133, u134, u135, u136, u137, u138, u139, u140, u141, u142, u143, u144, u145, u146, u147, u148, u149, u150, u151, u152, u153, u154, u155, u156, u157, u158, u159, u160, u161, u162, u163, u164, u165, u166, u167, u168, u169, u170, u171, u172, u173, u174, u175, u176, u177, u178, u179, u180, u181, u182, u183, u184, u185, u186, u187, u188, u189, u190, u191, u192, u193, u194, u195, u196, u197, u198, u199, u200, u201, u202, u203, u204, u205, u206, u207, u208, u209, u210, u211, u212, u213, u214, u215, u216, u217, u218, u219, u220, u221, u222, u223, u224, u225, u226, u227, u228, u229, u230, u231, u232, u233, u234, u235, u236, u237, u238, u239, u240, u241, u242, u243, u244, u245, u246, u247, u248, u249, u250, u251, u252, u253, u254, u255, u256, u257, u258, u259, u260, u261, u262, u263, u264, u265, u266, u267], []⟩ wr := by
  subst hc
  have HQ := Lib.hid hQ
  clear hQ
  have i0 : (0 : Int) ≤ (ci : Int) := by omega
  have i2 : (0 : Int) ≤ (j : Int) := by omega
  have z1 := fun n => (HZN n).1
  have q0 := fun n => (HZN n).2 0 (by omega)
  have q1 := fun n => (HZN n).2 1 (by omega)
  have q2 := fun n => (HZN n).2 2 (by omega)
  have q3 := fun n => (HZN n).2 3 (by omega)
  have q4 := fun n => (HZN n).2 4 (by omega)
  have q5 := fun n => (HZN n).2 5 (by omega)
  have q6 := fun n => (HZN n).2 6 (by omega)
  have q7 := fun n => (HZN n).2 7 (by omega)
  have q8 := fun n => (HZN n).2 8 (by omega)
  simp only [Ak.cs, List.getElem?_cons_zero, List.getElem?_cons_succ, Nat.add_zero] at q0 q1 q2 q3 q4 q5 q6 q7 q8
  have x0 := fun n => (HXN n).1
  have x1 := fun n => (HXN n).2
  clear HZN HXN
  conv => arg 2; whnf
  simp only [List.append_eq, List.cons_append, List.nil_append]
  refine wp_region_cls f n0 HF0.out (by kernel_rfl) (by kernel_rfl) ?_
  repeat (go_big_quiet_step ((go_at_call 32; refine (R4.out _).mono ?_; rintro e w'' ⟨rfl, hb⟩; exact ⟨rfl, HF2.out _ _ hb⟩)))
  refine wpQuiet_nil ?_
  intro _ hw'
  obtain ⟨nq, hw''⟩ := hw'
  subst hw''
  exact HQ.out nq _ _ _ _ _ _ _ _ _ _ _ _ _ _ _ _ _ _ _ _ _ _ _ _ _ _ _ _ _ _ _ _ _ _ _ _ _ _ _ _ _ _ _ _ _ _ _ _ _ _ _ _ _ _ _ _ _ _ _ _ _ _ _ _ _ _ _ _ _ _ _ _ _ _ _ _ _ _

set_option maxRecDepth 1000000 in
set_option maxHeartbeats 6400000 in
theorem region25_5 {u0 u1 u2 u3 u4 u5 u8 u9 u10 u11 u14 u18 u19 u21 u22 u23 u24 u25 u26 u27 u28 u29 u30 u31 u32 u33 u34 u35 u36 u37 u38 u39 u40 u41 u42 u43 u44 u45 u46 u47 u48 u49 u50 u51 u52 u53 u54 u55 u56 u57 u58 u59 u60 u61 u62 u63 u64 u65 u66 u67 u68 u69 u70 u71 u72 u73 u74 u75 u76 u77 u78 u79 u80 u81 u82 u83 u84 u85 u86 u87 u88 u89 u90 u91 u92 u93 u94 u95 u96 u97 u98 u99 u100 u101 u102 u103 u104 u105 u106 u107 u108 u109 u110 u111 u112 u113 u114 u115 u116 u117 u118 u119 u120 u121 u122 u123 u124 u125 u126 u127 u128 u129 u130 u131 u132 u133 u134 u135 u136 u137 u138 u139 u140 u141 u142 u143 u144 u145 u146 u147 u148 u149 u150 u151 u152 u153 u154 u155 u156 u157 u158 u159 u160 u161 u162 u163 u164 u165 u166 u167 u168 u169 u170 u171 u172 u173 u174 u175 u176 u177 u178 u179 u180 u181 u182 u183 u184 u185 u186 u187 u188 u189 u190 u191 u192 u193 u194 u195 u196 u197 u198 u199 u200 u201 u202 u203 u204 u205 u206 u207 u208 u209 u210 u211 u212 u213 u214 u215 u216 u217 u218 u219 u220 u221 u222 u223 u224 u225 u226 u227 u228 u229 u230 u231 u232 u233 u234 u235 u236 u237 u238 u239 u240 u241 u242 u243 u244 u245 u246 u247 u248 u249 u250 u251 u252 u253 u254 u255 u256 u257 u258 u259 u260 u261 u262 u263 u264 u265 u266 u267 : Value}
    {N : Type} {f : N → World} {n0 : N} {wr : World} {Q0 : Exit → Act → World → Prop} {c : Code} {S E Q m : Int} {pb : ByteArray} {T O D g1 g2 L c1 c2 j ci : Nat}
    (hc : R25 = c) (hNe : Nonempty N) (HF0 : Hid (({ wr with drawn := wr.drawn + 1 } : World) = f n0)) (HF2 : Hid (∀ n w', Below (f n).heap.size (f n) w' → ∃ m, w' = f m))
    (HZN : ∀ n, (f n).cell? ⟨g1, j, none⟩ = some (.int .i64 ci) ∧ ∀ i, i < 9 → (f n).cell? ⟨g2, j * 9 + i, none⟩ = (⟨5, S, E, Q, 0, 0, ⟨0, 0⟩, ⟨#[]⟩⟩ : Ak).cs[i]?)
    (y1 : ∀ n, (f n).cell? ⟨D, ci, none⟩ = some (.bool false))
    (HXN : ∀ n, (f n).cell? ⟨T, 0, none⟩ = some (.int .i64 E) ∧ (f n).cell? ⟨T, 1, none⟩ = some (.int .i64 Q))
    (i1 : (ci : Int) < 6) (i3 : (j : Int) < (L : Int))
    (R4 : Hid (∀ W, Calls Try.prog 32 #[(⟨5, S, E, Q, 0, 0, ⟨0, 0⟩, ⟨#[]⟩⟩ : Ak).v] W fun e w' => e = .returned (.bool true) ∧ Below W.heap.size W w'))
    (hQ : ∀ n v124 v125 v126 v127 v128 v129 v130 v131 v132 v133 v134 v135 v136 v137 v138 v139 v140 v141 v142 v143 v144 v145 v146 v147 v148 v149 v150 v151 v152 v153 v154 v155 v156 v157 v158 v159 v160 v161 v162 v163 v164 v165 v166 v167 v168 v169 v170 v171 v172 v173 v174 v175 v176 v177 v178 v179 v180 v181 v182 v183 v184 v185 v186 v187 v188 v189 v190 v191 v192 v193 v194 v195 v196 v197 v198 v199 v200 v201, Q0 .normal ⟨#[u0, u1, u2, u3, u4, u5, .int .i64 S, .pointer (some ⟨T, 0, none⟩), u8, u9, u10, u11, .pointer (some ⟨O, 0, none⟩), .pointer (some ⟨D, 0, none⟩), u14, .slice (some ⟨g1, 0, none⟩) L c1, .slice (some ⟨g2, 0, none⟩) L c2, .bool true, u18, u19, .int .i64 (j : Int), u21, u22, u23, u24, u25, u26, u27, u28, u29, u30, u31, u32, u33, u34, u35, u36, u37, u38, u39, u40, u41, u42, u43, u44, u45, u46, u47, u48, u49, u50, u51, u52, u53, u54, u55, u56, u57, u58, u59, u60, u61, u62, u63, u64, u65, u66, u67, u68, u69, u70, u71, u72, u73, u74, u75, u76, u77, u78, u79, u80, u81, u82, u83, u84, u85, u86, u87, u88, u89, u90, u91, u92, u93, u94, u95, u96, u97, u98, u99, u100, u101, u102, u103, u104, u105, u106, u107, u108, u109, u110, u111, u112, u113, u114, u115, u116, u117, u118, u119, u120, u121, u122, u123, v124, v125, v126, v127, v128, v129, v130, v131, v132, v133, v134, v135, v136, v137, v138, v139, v140, v141, v142, v143, v144, v145, v146, v147, v148, v149, v150, v151, v152, v153, v154, v155, v156, v157, v158, v159, v160, v161, v162, v163, v164, v165, v166, v167, v168, v169, v170, v171, v172, v173, v174, v175, v176, v177, v178, v179, v180, v181, v182, v183, v184, v185, v186, v187, v188, v189, v190, v191, v192, v193, v194, v195, v196, v197, v198, v199, v200, v201, .bool false, u203, u204, u205, u206, u207, u208, u209, u210, u211, u212, u213, u214, u215, u216, u217, u218, u219, u220, u221, u222, u223, u224, u225, u226, u227, u228, u229, u230, u231, u232, u233, u234, u235, u236, u237, u238, u239, u240, u241, u242, u243, u244, u245, u246, u247, u248, u249, u250, u251, u252, u253, u254, u255, u256, u257, u258, u259, u260, u261, u262, u263, u264, u265, u266, u267], []⟩ (f n)) :
    c.wp Try.prog Q0 ⟨#[u0, u1, u2, u3, u4, u5, .int .i64 S, .pointer (some ⟨T, 0, none⟩), u8, u9, u10, u11, .pointer (some ⟨O, 0, none⟩), .pointer (some ⟨D, 0, none⟩), u14, .slice (some ⟨g1, 0, none⟩) L c1, .slice (some ⟨g2, 0, none⟩) L c2, .bool true, u18, u19, .int .i64 (j : Int), u21, u22, u23, u24, u25, u26, u27, u28, u29, u30, u31, u32, u33, u34, u35, u36, u37, u38, u39, u40, u41, u42, u43, u44, u45, u46, u47, u48, u49, u50, u51, u52, u53, u54, u55, u56, u57, u58, u59, u60, u61, u62, u63, u64, u65, u66, u67, u68, u69, u70, u71, u72, u73, u74, u75, u76, u77, u78, u79, u80, u81, u82, u83, u84, u85, u86, u87, u88, u89, u90, u91, u92, u93, u94, u95, u96, u97, u98, u99, u100, u101, u102, u103, u104, u105, u106, u107, u108, u109, u110, u111, u112, u113, u114, u115, u116, u117, u118, u119, u120, u121, u122, u123, u124, u125, u126, u127, u128, u129, u130, u131, u132, u133, u134, u135, u136, u137, u138, u139, u140, u141, u142, u143, u144, u145, u146, u147, u148, u149, u150, u151, u152, u153, u154, u155, u156, u157, u158, u159, u160, u161, u162, u163, u164, u165, u166, u167, u168, u169, u170, u171, u172, u173, u174, u175, u176, u177, u178, u179, u180, u181, u182, u183, u184, u185, u186, u187, u188, u189, u190, u191, u192, u193, u194, u195, u196, u197, u198, u199, u200, u201, u202, u203, u204, u205, u206, u207, u208, u209, u210, u211, u212, u213, u214, u215, u216, u217, u218, u219, u220, u221, u222, u223, u224, u225, u226, u227, u228, u229, u230, u231, u232, u233, u234, u235, u236, u237, u238, u239, u240, u241, u242, u243, u244, u245, u246, u247, u248, u249, u250, u251, u252, u253, u254, u255, u256, u257, u258, u259, u260, u261, u262, u263, u264, u265, u266, u267], []⟩ wr := by
  subst hc
  have HQ := Lib.hid hQ
  clear hQ
  have i0 : (0 : Int) ≤ (ci : Int) := by omega
  have i2 : (0 : Int) ≤ (j : Int) := by omega
  have z1 := fun n => (HZN n).1
  have q0 := fun n => (HZN n).2 0 (by omega)
  have q1 := fun n => (HZN n).2 1 (by omega)
  have q2 := fun n => (HZN n).2 2 (by omega)
  have q3 := fun n => (HZN n).2 3 (by omega)
  have q4 := fun n => (HZN n).2 4 (by omega)
  have q5 := fun n => (HZN n).2 5 (by omega)
  have q6 := fun n => (HZN n).2 6 (by omega)
  have q7 := fun n => (HZN n).2 7 (by omega)
  have q8 := fun n => (HZN n).2 8 (by omega)
  simp only [Ak.cs, List.getElem?_cons_zero, List.getElem?_cons_succ, Nat.add_zero] at q0 q1 q2 q3 q4 q5 q6 q7 q8
  have x0 := fun n => (HXN n).1
  have x1 := fun n => (HXN n).2
  clear HZN HXN
  conv => arg 2; whnf
  simp only [List.append_eq, List.cons_append, List.nil_append]
  refine wp_region_cls f n0 HF0.out (by kernel_rfl) (by kernel_rfl) ?_
  repeat (go_big_quiet_step ((go_at_call 32; refine (R4.out _).mono ?_; rintro e w'' ⟨rfl, hb⟩; exact ⟨rfl, HF2.out _ _ hb⟩)))
  refine wpQuiet_nil ?_
  intro _ hw'
  obtain ⟨nq, hw''⟩ := hw'
  subst hw''
  exact HQ.out nq _ _ _ _ _ _ _ _ _ _ _ _ _ _ _ _ _ _ _ _ _ _ _ _ _ _ _ _ _ _ _ _ _ _ _ _ _ _ _ _ _ _ _ _ _ _ _ _ _ _ _ _ _ _ _ _ _ _ _ _ _ _ _ _ _ _ _ _ _ _ _ _ _ _ _ _ _ _

end Go.Proofs.Ytaeeflfhjmjpjaa
