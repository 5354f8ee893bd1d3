/- The walk of UpdateSteps: what stands behind its third loop, by itself. (Printed by tail_gen.py.) -/
import Derived.Test.YtaeeflfhjmjpjaaUreg
import Derived.Test.YtaeeflfhjmjpjaaUstp2
import Derived.StillTailTactics
namespace Go.Proofs.Ytaeeflfhjmjpjaa
open Go.RowKit SlRd
set_option linter.unusedVariables false

/-- what stands behind the region of that number -/
def behind (n : Nat) : Code → Option Code
  | .seq (.region id l d) b => if id = n then some b else behind n b
  | .loop c => behind n c
  | .seq a b => match behind n a with
    | some c => some c
    | none => behind n b
  | .block _ c => behind n c
  | .scope c => behind n c
  | .cond _ a b => match behind n a with
    | some c => some c
    | none => behind n b
  | _ => none
noncomputable def R28 : Code := (Try.f10.body.bind (regOf 28)).getD .skip
noncomputable def K28 : Code := (Try.f10.body.bind (behind 28)).getD .skip

set_option maxRecDepth 1000000 in
set_option maxHeartbeats 6400000 in
theorem tail28_4 {u0 u2 u3 u4 u5 u6 u7 u8 u9 u11 u17 u18 u19 u20 u22 u23 u24 u25 u26 u27 u28 u29 u30 u31 u32 u33 u34 u35 u36 u37 u38 u39 u40 u41 u42 u43 u44 u45 u46 u47 u48 u49 u50 u51 u52 u53 u54 u55 u56 u57 u58 u59 u60 u61 u62 u63 u64 u65 u66 u67 u68 u69 u70 u71 u72 u73 u74 u75 u76 u77 u78 u79 u80 u81 u82 u83 u84 u85 u86 u87 u88 u89 u90 u91 u92 u93 u94 u95 u96 u97 u98 u99 u100 u101 u102 u103 u104 u105 u106 u107 u108 u109 u110 u111 u112 u113 u114 u115 u116 u117 u118 u119 u120 u121 u122 u123 u124 u125 u126 u127 u128 u129 u130 u131 u132 u133 u134 u135 u136 u137 u138 u139 u140 u141 u142 u143 u144 u145 u146 u147 u148 u149 u150 u151 u152 u153 u154 u155 u156 u157 u158 u159 u160 u161 u162 u163 u164 u165 u166 u167 u168 u169 u170 u171 u172 u173 u174 u175 u176 u177 u178 u179 u180 u181 u182 u183 u184 u185 u186 u187 u188 u189 u190 u191 u192 u193 u194 u195 u196 u197 u198 u199 u200 u201 u202 u203 u204 u205 u206 u207 u208 u209 u210 u211 u212 u213 u214 u215 u216 u217 u218 u219 u220 u221 u222 u223 u224 u225 u226 u227 u228 u229 u230 u231 u232 u233 u234 u235 u236 u237 u238 u239 u240 u241 u242 u243 u244 u245 u246 u247 u248 u249 u250 u251 u252 u253 u254 u255 u256 u257 u258 u259 u260 u261 u262 u263 u264 u265 u266 u267 : Value}
    {wr : World} {I0 I1 : World → Prop} {Q0 : Exit → Act → World → Prop} {KK : Act → World → Prop} {r c : Code} {oa : Int} {B O D g1 g2 L c1 c2 M co bo oo jj kk ci : Nat}
    (hr : R28 = r) (hK : ∀ a w, c.wp Try.prog Q0 a w → KK a w) (hk : K28 = c) (H0 : Hid (I0 wr.drew)) (HD1 : Hid (∀ w, I1 w → I1 w.drew))
    (z1 : wr.cell? ⟨g1, jj, none⟩ = some (.int .i64 ci)) (z2 : wr.cell? ⟨g2, jj * 9, none⟩ = some (.int .i64 4))
    (HZ1 : Hid (∀ w, I1 w → w.cell? ⟨g1, jj, none⟩ = some (.int .i64 ci) ∧ w.cell? ⟨g2, jj * 9, none⟩ = some (.int .i64 4) ∧ (∃ x, w.cell? ⟨O, ci, none⟩ = some (.bool x)) ∧ w.frozen? ⟨O, ci, none⟩ = false))
    (HS0 : Hid (∀ w, I0 w → Calls Try.prog 34 #[.pointer (some ⟨B, 0, none⟩), .int .i64 ci, .int .i64 4, .int .i64 1] w fun e w' => e = .returned (.tuple #[]) ∧ I1 w'))
    (HS1 : Hid (∀ s w, I1 w → Calls Try.prog 34 #[.pointer (some ⟨B, 0, none⟩), .int .i64 ci, .int .i64 4, .int .i64 s] w fun e w' => e = .returned (.tuple #[]) ∧ I1 w'))
    (HCO : Hid (∀ w, I1 w → w.cell? ⟨bo, oo + kk, none⟩ = some (.int .i64 oa)))
    (i1 : (ci : Int) < 6) (i3 : (jj : Int) < (L : Int)) (i5 : (kk : Int) < (M : Int))
    (hQ : ∀ w v210 v211 v212 v213 v214 v215 v216 v217 v218 v219 v220 v221 v222 v223 v224 v225 v226 v227 v228 v229 v230 v231 v232 v233 v234 v235 v236 v237 v238 v239 v240 v241 v242 v243 v244 v245 v246 v247 v248 v249 v250 v251 v252 v253 v254 v255 v256 v257 v258 v259 v260 v261 v262 v263 v264, I1 w → Q0 .normal ⟨#[u0, .slice (some ⟨bo, oo, none⟩) M co, u2, u3, u4, u5, u6, u7, u8, u9, .pointer (some ⟨B, 0, none⟩), u11, .pointer (some ⟨O, 0, none⟩), .pointer (some ⟨D, 0, none⟩), .int .i64 (kk : Int), .slice (some ⟨g1, 0, none⟩) L c1, .slice (some ⟨g2, 0, none⟩) L c2, u17, u18, u19, u20, .int .i64 (jj : Int), u22, u23, u24, u25, u26, u27, u28, u29, u30, u31, u32, u33, u34, u35, u36, u37, u38, u39, u40, u41, u42, u43, u44, u45, u46, u47, u48, u49, u50, u51, u52, u53, u54, u55, u56, u57, u58, u59, u60, u61, u62, u63, u64, u65, u66, u67, u68, u69, u70, u71, u72, u73, u74, u75, u76, u77, u78, u79, u80, u81, u82, u83, u84, u85, u86, u87, u88, u89, u90, u91, u92, u93, u94, u95, u96, u97, u98, u99, u100, u101, u102, u103, u104, u105, u106, u107, u108, u109, u110, u111, u112, u113, u114, u115, u116, u117, u118, u119, u120, u121, u122, u123, u124, u125, u126, u127, u128, u129, u130, u131, u132, u133, u134, u135, u136, u137, u138, u139, u140, u141, u142, u143, u144, u145, u146, u147, u148, u149, u150, u151, u152, u153, u154, u155, u156, u157, u158, u159, u160, u161, u162, u163, u164, u165, u166, u167, u168, u169, u170, u171, u172, u173, u174, u175, u176, u177, u178, u179, u180, u181, u182, u183, u184, u185, u186, u187, u188, u189, u190, u191, u192, u193, u194, u195, u196, u197, u198, u199, u200, u201, u202, u203, u204, u205, u206, u207, u208, u209, v210, v211, v212, v213, v214, v215, v216, v217, v218, v219, v220, v221, v222, v223, v224, v225, v226, v227, v228, v229, v230, v231, v232, v233, v234, v235, v236, v237, v238, v239, v240, v241, v242, v243, v244, v245, v246, v247, v248, v249, v250, v251, v252, v253, v254, v255, v256, v257, v258, v259, v260, v261, v262, v263, v264, u265, u266, u267], []⟩ (w.setCell ⟨O, ci, none⟩ (.bool true))) :
    r.wp Try.prog (Exit.then KK Q0) ⟨#[u0, .slice (some ⟨bo, oo, none⟩) M co, u2, u3, u4, u5, u6, u7, u8, u9, .pointer (some ⟨B, 0, none⟩), u11, .pointer (some ⟨O, 0, none⟩), .pointer (some ⟨D, 0, none⟩), .int .i64 (kk : Int), .slice (some ⟨g1, 0, none⟩) L c1, .slice (some ⟨g2, 0, none⟩) L c2, u17, u18, u19, u20, .int .i64 (jj : Int), u22, u23, u24, u25, u26, u27, u28, u29, u30, u31, u32, u33, u34, u35, u36, u37, u38, u39, u40, u41, u42, u43, u44, u45, u46, u47, u48, u49, u50, u51, u52, u53, u54, u55, u56, u57, u58, u59, u60, u61, u62, u63, u64, u65, u66, u67, u68, u69, u70, u71, u72, u73, u74, u75, u76, u77, u78, u79, u80, u81, u82, u83, u84, u85, u86, u87, u88, u89, u90, u91, u92, u93, u94, u95, u96, u97, u98, u99, u100, u101, u102, u103, u104, u105, u106, u107, u108, u109, u110, u111, u112, u113, u114, u115, u116, u117, u118, u119, u120, u121, u122, u123, u124, u125, u126, u127, u128, u129, u130, u131, u132, u133, u134, u135, u136, u137, u138, u139, u140, u141, u142, u143, u144, u145, u146, u147, u148, u149, u150, u151, u152, u153, u154, u155, u156, u157, u158, u159, u160, u161, u162, u163, u164, u165, u166, u167, u168, u169, u170, u171, u172, u173, u174, u175, u176, u177, u178, u179, u180, u181, u182, u183, u184, u185, u186, u187, u188, u189, u190, u191, u192, u193, u194, u195, u196, u197, u198, u199, u200, u201, u202, u203, u204, u205, u206, u207, u208, u209, u210, u211, u212, u213, u214, u215, u216, u217, u218, u219, u220, u221, u222, u223, u224, u225, u226, u227, u228, u229, u230, u231, u232, u233, u234, u235, u236, u237, u238, u239, u240, u241, u242, u243, u244, u245, u246, u247, u248, u249, u250, u251, u252, u253, u254, u255, u256, u257, u258, u259, u260, u261, u262, u263, u264, u265, u266, u267], []⟩ wr := by
  subst hr
  subst hk
  have HQ := Lib.hid hQ
  clear hQ
  have i0 : (0 : Int) ≤ (ci : Int) := by omega
  have i2 : (0 : Int) ≤ (jj : Int) := by omega
  have i4 : (0 : Int) ≤ (kk : Int) := by omega
  conv => arg 2; whnf
  go_still_tail 10, (by kernel_rfl)
  change wpList _ _ _ _ _ wr.drew
  go_wp2_with fail
  refine (HS0.out _ H0.out).mono ?_; rintro e w9 ⟨rfl, H1⟩
  have hco9 := HCO.out _ H1
  have H1h := Lib.hid H1
  clear H1
  obtain ⟨a1, a2, ⟨x9, a3⟩, a4⟩ := HZ1.out _ H1h.out
  clear z1 z2
  go_wp2_with fail
  conv => arg 2; whnf
  go_wp2_with fail
  · clear hco9
    go_still_tail 10, (by kernel_rfl)
    change wpList _ _ _ _ _ w9.drew
    go_wp2_with fail
    refine (HS1.out 1 _ (HD1.out _ H1h.out)).mono ?_; rintro e w10 ⟨rfl, H2⟩
    have H2h := Lib.hid H2
    clear H2 a1 a2 a3 a4
    obtain ⟨b1, b2, ⟨x10, b3⟩, b4⟩ := HZ1.out _ H2h.out
    go_wp2_with fail
    go_still_tail 10, (by kernel_rfl)
    change wpList _ _ _ _ _ w10.drew
    go_wp2_with fail
    refine (HS1.out 2 _ (HD1.out _ H2h.out)).mono ?_; rintro e w11 ⟨rfl, H3⟩
    have H3h := Lib.hid H3
    clear H3 b1 b2 b3 b4
    obtain ⟨d1, d2, ⟨x11, d3⟩, d4⟩ := HZ1.out _ H3h.out
    go_wp2_with fail
    exact HQ.out w11 _ _ _ _ _ _ _ _ _ _ _ _ _ _ _ _ _ _ _ _ _ _ _ _ _ _ _ _ _ _ _ _ _ _ _ _ _ _ _ _ _ _ _ _ _ _ _ _ _ _ _ _ _ _ _ H3h.out
  · exact HQ.out w9 _ _ _ _ _ _ _ _ _ _ _ _ _ _ _ _ _ _ _ _ _ _ _ _ _ _ _ _ _ _ _ _ _ _ _ _ _ _ _ _ _ _ _ _ _ _ _ _ _ _ _ _ _ _ _ H1h.out

set_option maxRecDepth 1000000 in
set_option maxHeartbeats 6400000 in
theorem tail28_5 {u0 u2 u3 u4 u5 u6 u7 u8 u9 u11 u17 u18 u19 u20 u22 u23 u24 u25 u26 u27 u28 u29 u30 u31 u32 u33 u34 u35 u36 u37 u38 u39 u40 u41 u42 u43 u44 u45 u46 u47 u48 u49 u50 u51 u52 u53 u54 u55 u56 u57 u58 u59 u60 u61 u62 u63 u64 u65 u66 u67 u68 u69 u70 u71 u72 u73 u74 u75 u76 u77 u78 u79 u80 u81 u82 u83 u84 u85 u86 u87 u88 u89 u90 u91 u92 u93 u94 u95 u96 u97 u98 u99 u100 u101 u102 u103 u104 u105 u106 u107 u108 u109 u110 u111 u112 u113 u114 u115 u116 u117 u118 u119 u120 u121 u122 u123 u124 u125 u126 u127 u128 u129 u130 u131 u132 u133 u134 u135 u136 u137 u138 u139 u140 u141 u142 u143 u144 u145 u146 u147 u148 u149 u150 u151 u152 u153 u154 u155 u156 u157 u158 u159 u160 u161 u162 u163 u164 u165 u166 u167 u168 u169 u170 u171 u172 u173 u174 u175 u176 u177 u178 u179 u180 u181 u182 u183 u184 u185 u186 u187 u188 u189 u190 u191 u192 u193 u194 u195 u196 u197 u198 u199 u200 u201 u202 u203 u204 u205 u206 u207 u208 u209 u210 u211 u212 u213 u214 u215 u216 u217 u218 u219 u220 u221 u222 u223 u224 u225 u226 u227 u228 u229 u230 u231 u232 u233 u234 u235 u236 u237 u238 u239 u240 u241 u242 u243 u244 u245 u246 u247 u248 u249 u250 u251 u252 u253 u254 u255 u256 u257 u258 u259 u260 u261 u262 u263 u264 u265 u266 u267 : Value}
    {wr : World} {I0 I1 : World → Prop} {Q0 : Exit → Act → World → Prop} {KK : Act → World → Prop} {r c : Code} {oa : Int} {B O D g1 g2 L c1 c2 M co bo oo jj kk ci : Nat}
    (hr : R28 = r) (hK : ∀ a w, c.wp Try.prog Q0 a w → KK a w) (hk : K28 = c) (H0 : Hid (I0 wr.drew)) (HD1 : Hid (∀ w, I1 w → I1 w.drew))
    (z1 : wr.cell? ⟨g1, jj, none⟩ = some (.int .i64 ci)) (z2 : wr.cell? ⟨g2, jj * 9, none⟩ = some (.int .i64 5))
    (HZ1 : Hid (∀ w, I1 w → w.cell? ⟨g1, jj, none⟩ = some (.int .i64 ci) ∧ w.cell? ⟨g2, jj * 9, none⟩ = some (.int .i64 5) ∧ (∃ x, w.cell? ⟨D, ci, none⟩ = some (.bool x)) ∧ w.frozen? ⟨D, ci, none⟩ = false))
    (HS0 : Hid (∀ w, I0 w → Calls Try.prog 34 #[.pointer (some ⟨B, 0, none⟩), .int .i64 ci, .int .i64 5, .int .i64 1] w fun e w' => e = .returned (.tuple #[]) ∧ I1 w'))
    (HS1 : Hid (∀ s w, I1 w → Calls Try.prog 34 #[.pointer (some ⟨B, 0, none⟩), .int .i64 ci, .int .i64 5, .int .i64 s] w fun e w' => e = .returned (.tuple #[]) ∧ I1 w'))
    (HCO : Hid (∀ w, I1 w → w.cell? ⟨bo, oo + kk, none⟩ = some (.int .i64 oa)))
    (i1 : (ci : Int) < 6) (i3 : (jj : Int) < (L : Int)) (i5 : (kk : Int) < (M : Int))
    (hQ : ∀ w v210 v211 v212 v213 v214 v215 v216 v217 v218 v219 v220 v221 v222 v223 v224 v225 v226 v227 v228 v229 v230 v231 v232 v233 v234 v235 v236 v237 v238 v239 v240 v241 v242 v243 v244 v245 v246 v247 v248 v249 v250 v251 v252 v253 v254 v255 v256 v257 v258 v259 v260 v261 v262 v263 v264, I1 w → Q0 .normal ⟨#[u0, .slice (some ⟨bo, oo, none⟩) M co, u2, u3, u4, u5, u6, u7, u8, u9, .pointer (some ⟨B, 0, none⟩), u11, .pointer (some ⟨O, 0, none⟩), .pointer (some ⟨D, 0, none⟩), .int .i64 (kk : Int), .slice (some ⟨g1, 0, none⟩) L c1, .slice (some ⟨g2, 0, none⟩) L c2, u17, u18, u19, u20, .int .i64 (jj : Int), u22, u23, u24, u25, u26, u27, u28, u29, u30, u31, u32, u33, u34, u35, u36, u37, u38, u39, u40, u41, u42, u43, u44, u45, u46, u47, u48, u49, u50, u51, u52, u53, u54, u55, u56, u57, u58, u59, u60, u61, u62, u63, u64, u65, u66, u67, u68, u69, u70, u71, u72, u73, u74, u75, u76, u77, u78, u79, u80, u81, u82, u83, u84, u85, u86, u87, u88, u89, u90, u91, u92, u93, u94, u95, u96, u97, u98, u99, u100, u101, u102, u103, u104, u105, u106, u107, u108, u109, u110, u111, u112, u113, u114, u115, u116, u117, u118, u119, u120, u121, u122, u123, u124, u125, u126, u127, u128, u129, u130, u131, u132, u133, u134, u135, u136, u137, u138, u139, u140, u141, u142, u143, u144, u145, u146, u147, u148, u149, u150, u151, u152, u153, u154, u155, u156, u157, u158, u159, u160, u161, u162, u163, u164, u165, u166, u167, u168, u169, u170, u171, u172, u173, u174, u175, u176, u177, u178, u179, u180, u181, u182, u183, u184, u185, u186, u187, u188, u189, u190, u191, u192, u193, u194, u195, u196, u197, u198, u199, u200, u201, u202, u203, u204, u205, u206, u207, u208, u209, v210, v211, v212, v213, v214, v215, v216, v217, v218, v219, v220, v221, v222, v223, v224, v225, v226, v227, v228, v229, v230, v231, v232, v233, v234, v235, v236, v237, v238, v239, v240, v241, v242, v243, v244, v245, v246, v247, v248, v249, v250, v251, v252, v253, v254, v255, v256, v257, v258, v259, v260, v261, v262, v263, v264, u265, u266, u267], []⟩ (w.setCell ⟨D, ci, none⟩ (.bool true))) :
    r.wp Try.prog (Exit.then KK Q0) ⟨#[u0, .slice (some ⟨bo, oo, none⟩) M co, u2, u3, u4, u5, u6, u7, u8, u9, .pointer (some ⟨B, 0, none⟩), u11, .pointer (some ⟨O, 0, none⟩), .pointer (some ⟨D, 0, none⟩), .int .i64 (kk : Int), .slice (some ⟨g1, 0, none⟩) L c1, .slice (some ⟨g2, 0, none⟩) L c2, u17, u18, u19, u20, .int .i64 (jj : Int), u22, u23, u24, u25, u26, u27, u28, u29, u30, u31, u32, u33, u34, u35, u36, u37, u38, u39, u40, u41, u42, u43, u44, u45, u46, u47, u48, u49, u50, u51, u52, u53, u54, u55, u56, u57, u58, u59, u60, u61, u62, u63, u64, u65, u66, u67, u68, u69, u70, u71, u72, u73, u74, u75, u76, u77, u78, u79, u80, u81, u82, u83, u84, u85, u86, u87, u88, u89, u90, u91, u92, u93, u94, u95, u96, u97, u98, u99, u100, u101, u102, u103, u104, u105, u106, u107, u108, u109, u110, u111, u112, u113, u114, u115, u116, u117, u118, u119, u120, u121, u122, u123, u124, u125, u126, u127, u128, u129, u130, u131, u132, u133, u134, u135, u136, u137, u138, u139, u140, u141, u142, u143, u144, u145, u146, u147, u148, u149, u150, u151, u152, u153, u154, u155, u156, u157, u158, u159, u160, u161, u162, u163, u164, u165, u166, u167, u168, u169, u170, u171, u172, u173, u174, u175, u176, u177, u178, u179, u180, u181, u182, u183, u184, u185, u186, u187, u188, u189, u190, u191, u192, u193, u194, u195, u196, u197, u198, u199, u200, u201, u202, u203, u204, u205, u206, u207, u208, u209, u210, u211, u212, u213, u214, u215, u216, u217, u218, u219, u220, u221, u222, u223, u224, u225, u226, u227, u228, u229, u230, u231, u232, u233, u234, u235, u236, u237, u238, u239, u240, u241, u242, u243, u244, u245, u246, u247, u248, u249, u250, u251, u252, u253, u254, u255, u256, u257, u258, u259, u260, u261, u262, u263, u264, u265, u266, u267], []⟩ wr := by
  subst hr
  subst hk
  have HQ := Lib.hid hQ
  clear hQ
  have i0 : (0 : Int) ≤ (ci : Int) := by omega
  have i2 : (0 : Int) ≤ (jj : Int) := by omega
  have i4 : (0 : Int) ≤ (kk : Int) := by omega
  conv => arg 2; whnf
  go_still_tail 10, (by kernel_rfl)
  change wpList _ _ _ _ _ wr.drew
  go_wp2_with fail
  refine (HS0.out _ H0.out).mono ?_; rintro e w9 ⟨rfl, H1⟩
  have hco9 := HCO.out _ H1
  have H1h := Lib.hid H1
  clear H1
  obtain ⟨a1, a2, ⟨x9, a3⟩, a4⟩ := HZ1.out _ H1h.out
  clear z1 z2
  go_wp2_with fail
  conv => arg 2; whnf
  go_wp2_with fail
  · clear hco9
    go_still_tail 10, (by kernel_rfl)
    change wpList _ _ _ _ _ w9.drew
    go_wp2_with fail
    refine (HS1.out 1 _ (HD1.out _ H1h.out)).mono ?_; rintro e w10 ⟨rfl, H2⟩
    have H2h := Lib.hid H2
    clear H2 a1 a2 a3 a4
    obtain ⟨b1, b2, ⟨x10, b3⟩, b4⟩ := HZ1.out _ H2h.out
    go_wp2_with fail
    go_still_tail 10, (by kernel_rfl)
    change wpList _ _ _ _ _ w10.drew
    go_wp2_with fail
    refine (HS1.out 2 _ (HD1.out _ H2h.out)).mono ?_; rintro e w11 ⟨rfl, H3⟩
    have H3h := Lib.hid H3
    clear H3 b1 b2 b3 b4
    obtain ⟨d1, d2, ⟨x11, d3⟩, d4⟩ := HZ1.out _ H3h.out
    go_wp2_with fail
    exact HQ.out w11 _ _ _ _ _ _ _ _ _ _ _ _ _ _ _ _ _ _ _ _ _ _ _ _ _ _ _ _ _ _ _ _ _ _ _ _ _ _ _ _ _ _ _ _ _ _ _ _ _ _ _ _ _ _ _ H3h.out
  · exact HQ.out w9 _ _ _ _ _ _ _ _ _ _ _ _ _ _ _ _ _ _ _ _ _ _ _ _ _ _ _ _ _ _ _ _ _ _ _ _ _ _ _ _ _ _ _ _ _ _ _ _ _ _ _ _ _ _ _ H1h.out

end Go.Proofs.Ytaeeflfhjmjpjaa
