/- The walk of UpdateCuts. (Its beginning is printed by u_template.py.) -/
import Derived.Test.YtaeeflfhjmjpjaaUste
import Derived.Test.YtaeeflfhjmjpjaaUsay
import Derived.Test.YtaeeflfhjmjpjaaUcuts
import Derived.Test.YtaeeflfhjmjpjaaUset
import Derived.Test.YtaeeflfhjmjpjaaUargs
import Derived.Deep.CutRange
import Derived.StillTailTactics
namespace Go.Proofs.Ytaeeflfhjmjpjaa
open Go.RowKit SlRd
set_option linter.unusedVariables false

noncomputable def RRem14 : Code := (Try.f14.body.bind (regOf 20)).getD .skip
set_option maxRecDepth 1000000 in
set_option maxHeartbeats 3200000 in
theorem rrem14 {u0 u2 u3 u4 u5 u6 u7 u8 u9 u10 u11 u12 u13 u14 u15 u17 u18 u19 u20 u21 u22 u23 u24 u25 u26 u27 u28 u29 u30 u31 u32 u33 u34 u35 u36 u37 u38 u39 u40 u41 u42 u43 u44 u45 u46 u47 u48 u49 u50 u51 u52 u53 u54 u55 u56 u57 u58 u59 u60 u61 u62 u63 u64 u65 u66 u67 u68 u69 u70 u71 u72 u73 u74 u75 u76 u77 u78 u79 u80 u81 u82 u83 u84 u85 u86 u87 u88 u89 u90 u91 u92 u93 u94 u95 u96 u97 u98 u99 u100 u101 u102 u103 u104 u105 u106 u107 u108 u109 u110 u111 u112 u113 u114 u115 u116 u117 u118 u119 u120 u121 u122 u123 u124 u125 u126 u127 u128 u129 u130 u131 u132 u133 u134 u135 u136 u137 u138 u139 u140 u141 u142 u143 u144 u145 u146 u147 u148 u149 u150 u151 u152 u153 u154 u155 u156 u157 u158 u159 u160 u161 u162 u163 u164 u165 u166 u167 u168 u169 u170 u171 u172 u173 u174 u175 u176 u177 u178 u179 u180 u181 u182 u183 u184 u185 u186 u187 u188 u189 u190 u191 u192 u193 u194 u195 u196 u197 u198 u199 u200 u201 u202 u203 u204 u205 u206 u207 u208 u209 u210 u211 u212 u213 u214 u215 u216 u217 u218 u219 u220 u221 u222 u223 u224 u225 u226 u227 u228 u229 u230 u231 u232 u233 u234 u235 u236 u237 u238 u239 u240 u241 u242 u243 u244 u245 u246 u247 u248 u249 u250 u251 u252 u253 u254 u255 u256 u257 u258 u259 u260 u261 u262 u263 u264 u265 u266 u267 u268 u269 u270 u271 u272 u273 u274 u275 u276 u277 u278 u279 u280 u281 u282 u283 u284 u285 u286 u287 u288 u289 u290 u291 u292 u293 u294 u295 u296 u297 u298 u299 u300 u301 u302 u303 u304 u305 u306 u307 u308 u309 u310 u311 : Value}
    {wr : World} {Q0 : Exit → Act → World → Prop} {c : Code} {bo oo M co k : Nat} {oa : Int}
    (hc : RRem14 = c) (t0 : wr.cell? ⟨bo, oo + k, none⟩ = some (.int .i64 oa)) (i4 : (0 : Int) ≤ (k : Int)) (i5 : (k : Int) < (M : Int))
    (hQ : ∀ bb v136 v137 v138 v139 v140, Q0 .normal ⟨#[u0, .slice (some ⟨bo, oo, none⟩) M co, u2, u3, u4, u5, u6, u7, u8, u9, u10, u11, u12, u13, u14, u15, .int .i64 (k : Int), u17, u18, u19, u20, u21, u22, u23, u24, u25, u26, u27, u28, u29, u30, u31, u32, u33, u34, u35, u36, u37, u38, u39, u40, u41, u42, u43, u44, u45, u46, u47, u48, u49, u50, u51, u52, u53, u54, u55, u56, u57, u58, u59, u60, u61, u62, u63, u64, u65, u66, u67, u68, u69, u70, u71, u72, u73, u74, u75, u76, u77, u78, u79, u80, u81, u82, u83, u84, u85, u86, u87, u88, u89, u90, u91, u92, u93, u94, u95, u96, u97, u98, u99, u100, u101, u102, u103, u104, u105, u106, u107, u108, u109, u110, u111, u112, u113, u114, u115, u116, u117, u118, u119, u120, u121, u122, u123, u124, u125, u126, u127, u128, u129, u130, u131, u132, u133, u134, u135, v136, v137, v138, v139, v140, .bool bb, u142, u143, u144, u145, u146, u147, u148, u149, u150, u151, u152, u153, u154, u155, u156, u157, u158, u159, u160, u161, u162, u163, u164, u165, u166, u167, u168, u169, u170, u171, u172, u173, u174, u175, u176, u177, u178, u179, u180, u181, u182, u183, u184, u185, u186, u187, u188, u189, u190, u191, u192, u193, u194, u195, u196, u197, u198, u199, u200, u201, u202, u203, u204, u205, u206, u207, u208, u209, u210, u211, u212, u213, u214, u215, u216, u217, u218, u219, u220, u221, u222, u223, u224, u225, u226, u227, u228, u229, u230, u231, u232, u233, u234, u235, u236, u237, u238, u239, u240, u241, u242, u243, u244, u245, u246, u247, u248, u249, u250, u251, u252, u253, u254, u255, u256, u257, u258, u259, u260, u261, u262, u263, u264, u265, u266, u267, u268, u269, u270, u271, u272, u273, u274, u275, u276, u277, u278, u279, u280, u281, u282, u283, u284, u285, u286, u287, u288, u289, u290, u291, u292, u293, u294, u295, u296, u297, u298, u299, u300, u301, u302, u303, u304, u305, u306, u307, u308, u309, u310, u311], []⟩ wr) :
    c.wp Try.prog Q0 ⟨#[u0, .slice (some ⟨bo, oo, none⟩) M co, u2, u3, u4, u5, u6, u7, u8, u9, u10, u11, u12, u13, u14, u15, .int .i64 (k : Int), u17, u18, u19, u20, u21, u22, u23, u24, u25, u26, u27, u28, u29, u30, u31, u32, u33, u34, u35, u36, u37, u38, u39, u40, u41, u42, u43, u44, u45, u46, u47, u48, u49, u50, u51, u52, u53, u54, u55, u56, u57, u58, u59, u60, u61, u62, u63, u64, u65, u66, u67, u68, u69, u70, u71, u72, u73, u74, u75, u76, u77, u78, u79, u80, u81, u82, u83, u84, u85, u86, u87, u88, u89, u90, u91, u92, u93, u94, u95, u96, u97, u98, u99, u100, u101, u102, u103, u104, u105, u106, u107, u108, u109, u110, u111, u112, u113, u114, u115, u116, u117, u118, u119, u120, u121, u122, u123, u124, u125, u126, u127, u128, u129, u130, u131, u132, u133, u134, u135, u136, u137, u138, u139, u140, u141, u142, u143, u144, u145, u146, u147, u148, u149, u150, u151, u152, u153, u154, u155, u156, u157, u158, u159, u160, u161, u162, u163, u164, u165, u166, u167, u168, u169, u170, u171, u172, u173, u174, u175, u176, u177, u178, u179, u180, u181, u182, u183, u184, u185, u186, u187, u188, u189, u190, u191, u192, u193, u194, u195, u196, u197, u198, u199, u200, u201, u202, u203, u204, u205, u206, u207, u208, u209, u210, u211, u212, u213, u214, u215, u216, u217, u218, u219, u220, u221, u222, u223, u224, u225, u226, u227, u228, u229, u230, u231, u232, u233, u234, u235, u236, u237, u238, u239, u240, u241, u242, u243, u244, u245, u246, u247, u248, u249, u250, u251, u252, u253, u254, u255, u256, u257, u258, u259, u260, u261, u262, u263, u264, u265, u266, u267, u268, u269, u270, u271, u272, u273, u274, u275, u276, u277, u278, u279, u280, u281, u282, u283, u284, u285, u286, u287, u288, u289, u290, u291, u292, u293, u294, u295, u296, u297, u298, u299, u300, u301, u302, u303, u304, u305, u306, u307, u308, u309, u310, u311], []⟩ wr := by
  subst hc
  have HQ := Lib.hid hQ
  clear hQ
  conv => arg 2; whnf
  go_wp2_with fail
  all_goals exact HQ.out _ _ _ _ _ _

set_option maxRecDepth 100000 in
set_option maxHeartbeats 25600000 in
theorem updateCuts_walk (x : Rw) (vt : Value) (order : List Int) (vo : Value) (lost : Int) (w : World) (hr : Rd w 1 vt x.texts.length (x.texts.map Value.string)) (hx : x.ok) (hrl : x.texts.length ≤ 140737488351232)
    (ho : Rd w 1 vo order.length (IV order)) (hok : ∀ a ∈ order, -9223372036854775808 ≤ a ∧ a ≤ 9223372036854775807) (hol : order.length ≤ 140737488351232) (hlost : -9223372036854775808 ≤ lost ∧ lost ≤ 9223372036854775807) :
    Calls Try.prog 14 #[.agg #[.int .i64 x.stripe, .int .i64 x.mask, .int .i64 x.epoch, .int .i64 x.seq, vt], vo, .int .i64 lost] w fun e w' => e = .returned (.bool true) ∧ Below w.heap.size w w' := by
  obtain ⟨ao, co, rfl⟩ : ∃ a c, vo = .slice a order.length c := by obtain ⟨_, a, c, rfl, _⟩ := ho; exact ⟨_, _, rfl⟩
  have HOK := Lib.hid hok
  have HRO := Lib.hid ho
  have HLO := Lib.hid hlost
  have HPK : Hid (∀ (a : Int), (-9223372036854775808 ≤ a ∧ a ≤ 9223372036854775807) → ∀ n : Nat, 0 < n → n ≤ 100 → ∀ W, Calls Try.prog 33 #[.int .i64 a, .int .i64 n] W fun e w' => e = .returned (.int .i64 (pk a n)) ∧ W = w') := Lib.hid fun a ha n h1 h2 W => pick33_any a n ha (by omega) (by omega) W
  clear hok ho hlost
  have hfits := fits_of x
  have HFIT := Lib.hid (fun W h => fit_any x hx vt W h hrl)
  have hEle : fE x ≤ 9 := by have := pk_bd x.epoch 9 (by omega); unfold fE; omega
  obtain ⟨xs, xm, xe, xq, xt⟩ := x
  simp only at HFIT hr hrl ⊢
  generalize fS ⟨xs, xm, xe, xq, xt⟩ = S at HFIT hfits
  generalize fE ⟨xs, xm, xe, xq, xt⟩ = E at HFIT hfits hEle
  generalize fQ ⟨xs, xm, xe, xq, xt⟩ = Q at HFIT hfits
  generalize fC ⟨xs, xm, xe, xq, xt⟩ = C at HFIT hfits
  generalize fB ⟨xs, xm, xe, xq, xt⟩ = L at HFIT hfits
  have hn6 := hfits.len
  have hn0 := hfits.n0
  have HFITS := Lib.hid hfits
  clear hfits hx
  go_enter Try.func14, Try.ntmps14
  go_upto_region 1 with fail
  have bX := Blk.new w 53 #[.int .i64 xs, .int .i64 xm, .int .i64 xe, .int .i64 xq, vt]
  have hbX := (Below.refl w.heap.size w).alloc (Nat.le_refl _) (.cells #[.int .i64 xs, .int .i64 xm, .int .i64 xe, .int .i64 xq, vt] 53)
  have hrX := hr.below hbX
  generalize w.alloc (.cells #[.int .i64 xs, .int .i64 xm, .int .i64 xe, .int .i64 xq, vt] 53) = wX at bX hbX hrX ⊢
  generalize w.heap.size = X at bX ⊢
  have HWX := Lib.hid hbX
  clear hr hbX
  go_wp2_with fail
  refine (awake16_any _).mono ?_; rintro e w1 ⟨rfl, hb1⟩
  have bX1 : Blk w1 X 53 _ := (hb1.block X bX.lt).trans bX
  have hr1 := hrX.below hb1
  have HW1 := Lib.hid (below_then HWX.out hb1)
  have t0 := bX1.cell 0; have t1 := bX1.cell 1; have t2 := bX1.cell 2; have t3 := bX1.cell 3; have t4 := bX1.cell 4
  simp only [List.getElem?_toArray, List.getElem?_cons_zero, List.getElem?_cons_succ] at t0 t1 t2 t3 t4
  have hs01 := HW1.out.size
  clear bX hb1 hrX bX1 HWX
  go_wp2_with fail
  refine (HFIT.out _ hr1).mono ?_; rintro e w2 ⟨vc, vl, rfl, oc, ol, hb2⟩
  obtain ⟨ac, cc, rfl⟩ : ∃ a c, vc = .slice a C.length c := by obtain ⟨_, a, c, hv, _⟩ := Rd.of_owns oc; exact ⟨a, c, hv⟩
  obtain ⟨al, cl, rfl⟩ : ∃ a c, vl = .slice a C.length c := by obtain ⟨_, a, c, hv, _⟩ := Rd.of_owns ol; exact ⟨a, c, hv⟩
  have HW2 := Lib.hid (below_then HW1.out hb2)
  clear hr1 hb2 t0 t1 t2 t3 t4 HW1
  go_upto_region 3 with fail
  have bT := Blk.new w2 34 #[.int .i64 E, .int .i64 Q]
  have oc3 := oc.alloc (.cells #[.int .i64 E, .int .i64 Q] 34)
  have ol3 := ol.alloc (.cells #[.int .i64 E, .int .i64 Q] 34)
  have HW3 := Lib.hid (below_al HW2.out (.cells #[.int .i64 E, .int .i64 Q] 34))
  generalize w2.alloc (.cells #[.int .i64 E, .int .i64 Q] 34) = w3 at bT oc3 ol3 HW3 ⊢
  generalize w2.heap.size = T at bT ⊢
  clear oc ol HW2
  have t0 := bT.cell 0; have t1 := bT.cell 1
  simp only [List.getElem?_toArray, List.getElem?_cons_zero, List.getElem?_cons_succ] at t0 t1
  have rc3 := Rd.of_owns oc3
  have rl3 := Rd.of_owns ol3
  go_wp2_with fail
  refine (newW HFITS.out (.slice ac C.length cc) (.slice al C.length cl) w3 rc3 (by rw [HFITS.out.n]; exact rl3) w3 (Below.refl _ _)).mono ?_; rintro e w4 ⟨B, v, rfl, hU, hb4, hB4, hv4⟩
  have hpl := parts_len HFITS.out
  have HPL := Lib.hid hpl
  clear t0 t1 hpl
  have bT4 : Blk w4 T 34 _ := (hb4.block T bT.lt).trans bT
  have t0 := bT4.cell 0
  simp only [List.getElem?_toArray, List.getElem?_cons_zero] at t0
  go_wp2_with fail
  refine (columnsOf_any E _).mono ?_; rintro e w5 ⟨vn, rfl, on, hb5⟩
  obtain ⟨g, cap, rfl, hgb, hgl⟩ := on.form (by omega)
  have hm1 := maskOf_pos hn0
  have hm2 := maskOf_lt C HFITS.out.bd
  have hgB : ¬ US B v g := by
    rintro (h | h)
    · have := hU.o.h.lt
      omega
    · have := (owns_lt hU.o.own g h).2
      omega
  have hw34 := hb4.size
  have HS0 : Hid (StE w3 E Q (maskOf C : Nat) B v g (newU S E Q C L) (List.replicate 6 (baseR E s16)) w5) :=
    Lib.hid ⟨hU.below hb5, EI.new HFITS.out, RowsOf.of_owns (fun _ => rfl) on rfl, hgl, by omega, hgB⟩
  have HI0 := Lib.hid (Iv.new HFITS.out)
  have HRC := Lib.hid rc3
  have HRL := Lib.hid rl3
  have HBT := Lib.hid bT
  have HWW := Lib.hid HW3.out
  have HRO3 := Lib.hid (HRO.out.below HWW.out)
  have hn0' := hn0
  clear hU hb4 bT oc3 ol3 rl3 rc3 bT4 t0 on hb5 hgB hgb hgl hw34 hB4 hv4
  go_upto_block 0 with fail
  go_cut [15, 16, 17, 18, 19, 20, 21] from 59 to 154 (fun s15 s16 s17 s18 s19 s20 s21 wx => ∃ sec u R, s15 = .bool sec ∧ Hid (StE w3 E Q (maskOf C : Nat) B v g u R wx) ∧ Hid (Iv S E Q C L u) ∧ (sec = true → allO u.parts = true))
  case first =>
    as_aux_lemma =>
      go_wp2_with fail
      go_loopw [15, 16] (fun s15 i wr => ∃ k : Nat, k ≤ 20 ∧ k ≤ order.length ∧ i = .int .i64 k ∧ ∃ sec u R, s15 = .bool sec ∧ Hid (StE w3 E Q (maskOf C : Nat) B v g u R wr) ∧ Hid (Iv S E Q C L u) ∧ Hid (sec = true → allO u.parts = true)) (fun _ i _ => 20 - (intOf i).toNat)
      case atStart => exact ⟨0, by omega, by omega, rfl, false, _, _, rfl, HS0, HI0, Lib.hid fun h => by cases h⟩
      case round =>
        clear HS0 HI0
        obtain ⟨k, hk, hkm, rfl, sec, u, R, rfl, HE, HI, HSEC⟩ := hrel
        have hul := HI.out.len
        have HST := Lib.hid (fun W (h : UW w3 W B v u) => stateW h (by omega))
        have HST2 := Lib.hid (fun W (h : UW w3 W B v (begun u)) => stateW h (by rw [begun_parts]; omega))
        rw [begun_st] at HST2
        have hs3 := st_cases HI.out.f
        by_cases hlt : k < order.length ∧ k < 20
        · obtain ⟨hkn, hlt⟩ := hlt
          have i20 : (k : Int) < 20 := by omega
          have i21 : (k : Int) < (order.length : Int) := by omega
          by_cases h2 : stU u = 2
          · rw [h2] at HST
            go_wp2_with fail
            refine (HST.out _ HE.out.w).mono ?_; rintro e w6 ⟨rfl, hU6, hb6⟩
            have HE6 := Lib.hid (HE.out.below hb6)
            clear hU6 hb6
            go_wp2_with fail
            go_meet
            exact ⟨sec, u, R, rfl, HE6, HI, HSEC.out⟩
          · have hlt2 : (decide (stU u < 2)) = true := by rw [decide_eq_true_iff]; omega
            have hpos : (toAsk u).length ≠ 0 := fun h0 => h2 (st_none HI.out.f h0)
            have hst2 : stU u < 2 := by omega
            have HS1 := Lib.hid (st_val HI.out.f)
            generalize hsu : stU u = st at HST HST2 hlt2 hst2 HS1
            go_wp2_with fail
            refine (HST.out _ HE.out.w).mono ?_; rintro e w6 ⟨rfl, hU6, hb6⟩
            have HE6 := Lib.hid (HE.out.below hb6)
            have HAW := Lib.hid (asksW HE6.out.w (by omega))
            clear hU6 hb6
            go_wp2_with fail
            refine HAW.out.mono ?_; rintro e w7 ⟨v1, v2, rfl, o1, o2, hU7, ht7⟩
            have hE7 := HE6.out.touch ht7 hU7 HE6.out.e.begun
            obtain ⟨g1, c1, rfl, hg1, hg1'⟩ := o1.form (by omega)
            obtain ⟨g2, c2, rfl, hg2, hg2'⟩ := o2.form (by omega)
            have hg6 := HE6.out.gs
            have hne : (((toAsk u).length : Int) != ((toAsk u).length : Int)) = false := by simp
            have hz2 : (((toAsk u).length : Int) == 0) = false := by rw [beq_eq_false_iff_ne]; omega
            have htl : (toAsk u).length ≤ 6 := by
              have := List.length_filter_le (wants (stU u)) u.parts
              unfold toAsk
              omega
            have HE7 := Lib.hid hE7
            have HRN := Lib.hid (fun j hj => round_cells HFITS.out HI.out rfl (by omega) (by omega) HE6.out.e o1 o2 j hj)
            have hgg1 : g1 ≠ g := by omega
            have hgg2 : g2 ≠ g := by omega
            have HO1 := Lib.hid o1
            have HO2 := Lib.hid o2
            clear HAW ht7 hU7 o1 o2 hE7 hg1 hg2 hg6
            go_upto_region 12 with fail
            go_cut [15] from 59 to 154 (fun s15 wx => ∃ sec', s15 = .bool sec' ∧ Hid (Below w7.heap.size w7 wx) ∧ Hid (sec' = true → allO u.parts = true))
            case first =>
              cases sec
              · go_wp2_with fail
                refine (HST2.out _ HE7.out.w).mono ?_; rintro e w8 ⟨rfl, _, hb8⟩
                have HB8 := Lib.hid hb8
                clear hb8
                go_wp2_with fail
                go_meet
                refine ⟨_, rfl, HB8, Lib.hid fun h => ?_⟩
                have h1 : st = 1 := by simpa using h
                have hv := HS1.out
                cases ha : allO u.parts
                · rw [ha] at hv
                  simp at hv
                  omega
                · rfl
              · go_wp2_with fail
                go_meet
                exact ⟨true, rfl, Lib.hid (Below.refl _ _), Lib.hid fun _ => HSEC.out (by first | rfl | trivial)⟩
            case rest =>
              obtain ⟨sec', rfl, HB8, HSEC2⟩ := hcut
              have hE8 := HE7.out.below HB8.out
              have hRN := fun j hj => round_cells HFITS.out HI.out rfl (by omega) (by omega) HE6.out.e (owns_below HO1.out HB8.out) (owns_below HO2.out HB8.out) j hj
              have hg1' := Nat.lt_of_lt_of_le hg1' HB8.out.size
              have hg2' := Nat.lt_of_lt_of_le hg2' HB8.out.size
              clear HE7 HRN HO1 HO2 HST HST2 HS1 HB8 HSEC
              have HE7 := Lib.hid hE8
              have HRN := Lib.hid hRN
              clear hE8 hRN
              obtain ⟨bo, oo, rfl, hbo1, _⟩ := HRO3.out.at1 k hkn
              have HCO : Hid (∀ W, Below w3.heap.size w3 W → W.cell? ⟨bo, oo + k, none⟩ = some (.int .i64 order[k])) := Lib.hid fun W hb => by
                obtain ⟨bo', oo', he, _, hco'⟩ := (HRO3.out.below hb).at1 k hkn
                cases he
                unfold IV at hco'
                rw [List.getElem?_map, List.getElem?_eq_getElem hkn] at hco'
                exact hco'
              have hab := HOK.out _ (List.getElem_mem hkn)
              have HP := Lib.hid (HPK.out order[k] hab (toAsk u).length (by omega) (by omega))
              have hpb := pk_bd order[k] (toAsk u).length (by omega)
              generalize order[k] = oa at HCO HP hpb
              obtain ⟨jj, hjj⟩ : ∃ n : Nat, pk oa (toAsk u).length = n := ⟨(pk oa (toAsk u).length).toNat, by omega⟩
              rw [hjj] at HP hpb
              have hjj : jj < (toAsk u).length := by omega
              have hco := HCO.out _ HE7.out.w.w
              have hbog : bo ≠ g := by have := HE7.out.gw; omega
              have i4 : (0 : Int) ≤ (k : Int) := by omega
              go_upto_region 15 with fail
              go_wp2_with fail
              refine (HP.out _).mono ?_; rintro e w8 ⟨rfl, rfl⟩
              clear hco HP hpb
              obtain ⟨ci, q, r, r', hci, hR, z1, hq, hqk, HA0, he1, he2, hiv, hmu2, hlen2⟩ := HRN.out jj hjj
              have hp := HE7.out.cells hci hR
              have p0 := hp 0 (by omega); have p1 := hp 1 (by omega); have p2 := hp 2 (by omega); have p3 := hp 3 (by omega); have p4 := hp 4 (by omega); have p5 := hp 5 (by omega); have p6 := hp 6 (by omega); have p7 := hp 7 (by omega); have p8 := hp 8 (by omega); have p9 := hp 9 (by omega)
              have q0 := hq 0 (by omega); have q1 := hq 1 (by omega); have q2 := hq 2 (by omega); have q3 := hq 3 (by omega); have q4 := hq 4 (by omega); have q5 := hq 5 (by omega); have q6 := hq 6 (by omega); have q7 := hq 7 (by omega); have q8 := hq 8 (by omega)
              have HE2 := Lib.hid he1
              have HE3 := Lib.hid he2
              have HIV := Lib.hid hiv
              have hR' := hR
              clear hp hq he1 he2 hiv HRN hR hR'
              obtain ⟨qk, qs, qe, qq, qm, qn, ⟨qo, qp⟩, qb⟩ := q
              obtain ⟨xu, xf, ⟨xde, xds⟩, xb, xo, ⟨xie, xis⟩, xm, xs'⟩ := r
              obtain ⟨yu, yf, ⟨yde, yds⟩, yb, yo, ⟨yie, yis⟩, ym, ys⟩ := r'
              simp only [Ak.cs, Rc.cs, List.getElem?_cons_zero, List.getElem?_cons_succ, Nat.add_zero] at p0 p1 p2 p3 p4 p5 p6 p7 p8 p9 q0 q1 q2 q3 q4 q5 q6 q7 q8
              have HA := Lib.hid HA0
              clear HA0
              simp only at hqk HE3 HIV hmu2 hlen2
              have i0 : (0 : Int) ≤ (ci : Int) := by omega
              have i1 : (ci : Int) < 6 := by omega
              have i2 : (0 : Int) ≤ (jj : Int) := by omega
              have i3 : (jj : Int) < ((toAsk u).length : Int) := by omega
              have n3 := HE7.out.gs
              go_upto_region 18 with fail
              refine rapp14 (by kernel_rfl) z1 q0 q1 q2 q3 q4 q5 q6 q7 q8 p0 p1 p2 p3 p4 p5 p6 p7 p8 p9 hg1' hg2' n3 i1 i3 HA ?_
              clear p0 p1 p2 p3 p4 p5 p6 p7 p8 p9 q1 q2 q3 q4 q5 q6 q7 q8 HA
              intro W8 A As
              intros
              rename_i hNx
              have y0 := hNx.a 0; have y1 := hNx.a 1; have y2 := hNx.a 2; have y3 := hNx.a 3; have y4 := hNx.a 4; have y5 := hNx.a 5; have y6 := hNx.a 6; have y7 := hNx.a 7; have y8 := hNx.a 8; have y9 := hNx.a 9
              simp only [List.getElem?_cons_zero, List.getElem?_cons_succ] at y0 y1 y2 y3 y4 y5 y6 y7 y8 y9
              have x1 := (hNx.b.cell (p := ⟨g1, jj, none⟩) hg1').trans z1
              have x2 := (hNx.b.cell (p := ⟨g2, jj * 9, none⟩) hg2').trans q0
              have x3 := hNx.s
              have x4 := HCO.out _ (below_then HE7.out.w.w hNx.b)
              have hE8 := HE7.out.below (hNx.b.drew)
              have hth := hE8.there hci
              have hAg : As ≠ g := by have := hNx.b0; omega
              have hE9 := Lib.hid (hE8.store hci (⟨yu, yf, ⟨yde, yds⟩, yb, yo, ⟨yie, yis⟩, ym, ys⟩ : Rc) HE2.out)
              clear z1 q0 hNx hE8 HE2
              go_wp2_with fail
              go_still_tail 7, (by kernel_rfl)
              change wpList _ _ _ _ _ W8.drew
              go_upto_region 20 with (refine wpList_store_mid rfl 37 (.tmp 135) (.tmp 134) rfl g (ci * 10) (Rc.cs ⟨yu, yf, ⟨yde, yds⟩, yb, yo, ⟨yie, yis⟩, ym, ys⟩).toArray rfl rfl ?_ ?_ (rc_one ⟨yu, yf, ⟨yde, yds⟩, yb, yo, ⟨yie, yis⟩, ym, ys⟩) ?_; exact hth; exact size37)
              have x1' : (W8.drew.setCells g (ci * 10) (Rc.cs ⟨yu, yf, ⟨yde, yds⟩, yb, yo, ⟨yie, yis⟩, ym, ys⟩)).cell? ⟨g1, jj, none⟩ = _ := (far_cell hgg1).trans x1
              have x2' : (W8.drew.setCells g (ci * 10) (Rc.cs ⟨yu, yf, ⟨yde, yds⟩, yb, yo, ⟨yie, yis⟩, ym, ys⟩)).cell? ⟨g2, jj * 9, none⟩ = _ := (far_cell hgg2).trans x2
              have x3' : (W8.drew.setCells g (ci * 10) (Rc.cs ⟨yu, yf, ⟨yde, yds⟩, yb, yo, ⟨yie, yis⟩, ym, ys⟩)).cell? ⟨As, 0, none⟩ = _ := (far_cell hAg).trans x3
              have x4' : (W8.drew.setCells g (ci * 10) (Rc.cs ⟨yu, yf, ⟨yde, yds⟩, yb, yo, ⟨yie, yis⟩, ym, ys⟩)).cell? ⟨bo, oo + k, none⟩ = _ := (far_cell hbog).trans x4
              clear y0 y1 y2 y3 y4 y5 y6 y7 y8 y9 x1 x2 x3 x4 hth
              generalize W8.drew.setCells g (ci * 10) (Rc.cs ⟨yu, yf, ⟨yde, yds⟩, yb, yo, ⟨yie, yis⟩, ym, ys⟩) = W9 at hE9 x1' x2' x3' x4' ⊢
              have hE9d := hE9.out.below (Below.refl W9.heap.size W9).drew
              have HSD : Hid (Calls Try.prog 34 #[.pointer (some ⟨B, 0, none⟩), .int .i64 ci, .int .i64 qk, .int .i64 1] W9.drew fun e w' => e = .returned (.tuple #[]) ∧ StE w3 E Q (maskOf C : Nat) B v g (saidU (begun u) (ci : Int) qk 1) (R.set ci (⟨yu, yf, ⟨yde, yds⟩, yb, yo, ⟨yie, yis⟩, ym, ys⟩ : Rc)) w') := Lib.hid (by
                refine (saidW hE9d.w (by rw [begun_parts]; omega) (ci : Int) qk 1).mono ?_
                rintro e W10 ⟨rfl, hU10, ht10⟩
                exact ⟨rfl, hE9d.touch ht10 hU10 HE3.out⟩)
              have HSEC3 : Hid (sec' = true → allO (saidU (begun u) (ci : Int) qk 1).parts = true) := Lib.hid fun h => allO_said HI.out.begun (HSEC2.out h) _ _ _
              clear hE9d hmu2 hlen2 hs3 hpos hsu hlt2 hst2 hgg1 hgg2 hAg hqk hne hz2 n3 h2 hul hg1' hg2' hm1 hm2 HE3 hbog
              have X1 := Lib.hid x1'
              have X2 := Lib.hid x2'
              have X3 := Lib.hid x3'
              clear x1' x2' x3'
              refine rrem14 (by kernel_rfl) x4' i4 i21 ?_
              clear x4'
              intro bb
              intros
              cases bb
              · clear X1 X2 X3 HSD
                go_wp2_with fail
                go_roundw
                case rel => exact ⟨k + 1, by omega, by omega, by go_num, sec', _, _, rfl, hE9, Lib.hid HI.out.begun, HSEC2⟩
                case measure => simp [intOf]; omega
              · clear hE9
                go_wp2_with fail
                refine rsay14 (by kernel_rfl) X1.out X2.out X3.out i3 HSD ?_
                intro W10
                intros
                rename_i hE10
                have HE10 := Lib.hid hE10
                clear hE10 HSD X1 X2 X3
                go_wp2_with fail
                go_roundw
                case rel => exact ⟨k + 1, by omega, by omega, by go_num, sec', _, _, rfl, HE10, HIV, HSEC3⟩
                case measure => simp [intOf]; omega
        · have hfin : k = order.length ∨ (k < order.length ∧ k = 20) := by omega
          rcases hfin with hk1 | ⟨hk0, hk1⟩
          all_goals
            subst hk1
            go_wp2_with fail
            go_meet
            exact ⟨sec, u, R, rfl, HE, HI, HSEC.out⟩
  case rest =>
    clear HS0 HI0
    obtain ⟨sec, u, R, rfl, HE, HI, hsec⟩ := hcut
    have hE1 := HFITS.out.e0
    have hs0 := HFITS.out.s0
    have hs1 := HFITS.out.s1
    have HSEC := Lib.hid hsec
    have HRF := Lib.hid (cut_rec HFITS.out HI.out (by omega) (by omega) HE.out.e)
    have HAT := Lib.hid (fun (kn : List Bool) (h1 : kn.length = 6) (k : Nat) (hk : k < C.length) => cut_at HFITS.out HI.out rfl HE.out.e h1 k hk)
    have HPL := Lib.hid (HPK.out lost HLO.out 7 (by omega) (by omega))
    have hpb := pk_bd lost (7 : Nat) (by omega)
    obtain ⟨ll, hll⟩ : ∃ n : Nat, pk lost (7 : Nat) = n := ⟨(pk lost (7 : Nat)).toNat, by omega⟩
    rw [hll] at HPL hpb
    clear hll hsec
    go_upto_region 23 with fail
    have HCT := Lib.hid (CtB.start HE.out)
    generalize wc.alloc (.cells #[.bool true, .bool true, .bool true, .bool true, .bool true, .bool true] 4) = w6 at HCT ⊢
    generalize wc.heap.size = kb at HCT ⊢
    clear HE
    go_wp2_with fail
    refine (HPL.out _).mono ?_; rintro e w7 ⟨rfl, rfl⟩
    have i0 : (0 : Int) ≤ (ll : Int) := by omega
    go_upto_if 159 with fail
    go_cut [160] from 161 to 162 (fun s160 wx => ∃ kn, Hid (CtB w3 wx g kb kn R))
    case first =>
      by_cases h6 : ll < 6
      · have h6' : (ll : Int) < 6 := by omega
        obtain ⟨t0, t1⟩ := HCT.out.bool h6
        go_wp2_with fail
        go_meet
        exact ⟨_, Lib.hid (HCT.out.off h6)⟩
      · have h6' : ¬ (ll : Int) < 6 := by omega
        go_wp2_with fail
        go_meet
        exact ⟨_, HCT⟩
    case rest =>
      clear HCT HPL hpb i0
      obtain ⟨kn, HCT⟩ := hcut
      have hRl := HCT.out.l6
      go_wp2_with fail
      go_loopw [23] (fun i wr => ∃ k : Nat, k ≤ 6 ∧ i = .int .i64 k ∧ Hid (CtB w3 wr g kb kn (upK E R k))) (fun i _ => 6 - (intOf i).toNat)
      case atStart => exact ⟨0, by omega, rfl, HCT⟩
      case round =>
        clear HCT
        obtain ⟨k, hk, rfl, HC⟩ := hrel
        by_cases hlt : k < 6
        · have i1 : (k : Int) < 6 := by omega
          have hkR : k < R.length := by rw [hRl]; exact hlt
          have hp := HC.out.cells (c := k) (r := R[k]) (by rw [List.getElem?_eq_getElem (by rw [upK_len]; exact hkR), upK_at E R k hkR])
          have HS := Lib.hid (upK_succ E R k hkR)
          have HRk := Lib.hid (HRF.out _ (List.getElem_mem hkR))
          generalize R[k] = r at hp HS HRk
          have hth := HC.out.there hlt
          have n3 := HC.out.gs
          have bTW : Blk wr T 34 _ := (HC.out.w.block T HBT.out.lt).trans HBT.out
          have n1 := bTW.lt
          have t0 := bTW.cell 0
          simp only [List.getElem?_toArray, List.getElem?_cons_zero] at t0
          have p0 := hp 0 (by omega); have p1 := hp 1 (by omega); have p2 := hp 2 (by omega); have p3 := hp 3 (by omega); have p4 := hp 4 (by omega); have p5 := hp 5 (by omega); have p6 := hp 6 (by omega); have p7 := hp 7 (by omega); have p8 := hp 8 (by omega); have p9 := hp 9 (by omega)
          clear hp bTW
          obtain ⟨xu, xf, ⟨xde, xds⟩, xb, xo, ⟨xie, xis⟩, xm, xs'⟩ := r
          simp only [Rc.cs, List.getElem?_cons_zero, List.getElem?_cons_succ, Nat.add_zero] at p0 p1 p2 p3 p4 p5 p6 p7 p8 p9
          have HA : Hid (∀ W, Calls Try.prog 36 #[(⟨xu, xf, ⟨xde, xds⟩, xb, xo, ⟨xie, xis⟩, xm, xs'⟩ : Rc).v, (⟨1, S, E + 1, 0, 0, 0, ⟨0, 0⟩, ⟨#[]⟩⟩ : Ak).v] W fun e w' => e = .returned (.tuple #[(⟨xu, E + 1, ⟨xde, xds⟩, xb, xo, ⟨xie, xis⟩, xm, xs'⟩ : Rc).v, sayV 1 (E + 1) (⟨xu, E + 1, ⟨xde, xds⟩, xb, xo, ⟨xie, xis⟩, xm, xs'⟩ : Rc)]) ∧ Below W.heap.size W w') :=
            Lib.hid fun W => apply1 _ HRk.out.right S (E + 1) hs0 hs1 (by omega) (by omega) (by rw [HRk.out.fence]; omega) W
          go_upto_region 29 with fail
          refine rfen14 (by kernel_rfl) t0 p0 p1 p2 p3 p4 p5 p6 p7 p8 p9 hth n1 n3 i1 hE1 hEle HA ?_
          clear p0 p1 p2 p3 p4 p5 p6 p7 p8 p9 hth t0 HA
          intro W8
          intros
          rename_i hb8
          have HC9 : Hid (CtB w3 (W8.setCells g (k * 10) (⟨xu, E + 1, ⟨xde, xds⟩, xb, xo, ⟨xie, xis⟩, xm, xs'⟩ : Rc).cs) g kb kn (upK E R (k + 1))) := Lib.hid (by rw [HS.out]; exact (HC.out.below hb8).store hlt _)
          generalize W8.setCells g (k * 10) (⟨xu, E + 1, ⟨xde, xds⟩, xb, xo, ⟨xie, xis⟩, xm, xs'⟩ : Rc).cs = W9 at HC9 ⊢
          clear HC HS HRk
          go_wp2_with fail
          go_roundw
          case rel => exact ⟨k + 1, by omega, by go_num, HC9⟩
          case measure => simp [intOf]; omega
        · obtain rfl : k = 6 := by omega
          have HCT : Hid (CtB w3 wr g kb kn (upR E R)) := Lib.hid (by have := HC.out; rw [← hRl, upK_all] at this; exact this)
          have HUP := Lib.hid (cut_up HFITS.out hEle HRF.out)
          have HAK := Lib.hid (HAT.out kn HCT.out.k6)
          clear HC HAT HRF
          have hul : (upR E R).length = 6 := HCT.out.l6
          generalize FW kn (upR E R) ⟨E, Q⟩ (maskOf C : Nat) = F at HAK
          generalize upR E R = l at HCT HUP HAK hul
          have hG := HCT.out.given (fun r hr => (HUP.out r hr).right.mask) 6 cap
          have bTW : Blk wr T 34 _ := (HCT.out.w.block T HBT.out.lt).trans HBT.out
          have t0 := bTW.cell 0
          simp only [List.getElem?_toArray, List.getElem?_cons_zero] at t0
          go_wp2_with fail
          refine (asks_any hG S (E + 1)).mono ?_; rintro e w8 ⟨v1, v2, rfl, o1, o2, hb8⟩
          have hal := asked_le kn l
          obtain ⟨a1, c1, rfl⟩ : ∃ a c, v1 = .slice a (asked kn l).length c := by obtain ⟨_, a, c, hv, _⟩ := Rd.of_owns o1; exact ⟨a, c, hv⟩
          obtain ⟨a2, c2, rfl⟩ : ∃ a c, v2 = .slice a (asked kn l).length c := by obtain ⟨_, a, c, hv, _⟩ := Rd.of_owns o2; exact ⟨a, c, hv⟩
          have HSC := Lib.hid (fun (k : Nat) (hk : k < (asked kn l).length) => set_cells HFITS.out hEle hul HCT.out.k6 HUP.out o1 o2 rfl HCT.out.gs HCT.out.gs k hk)
          have HC8 : Hid (CtB w3 w8 g kb kn (stK S E kn l 0)) := Lib.hid (HCT.out.below hb8)
          clear HCT hG t0 bTW o1 o2 hb8 HUP
          generalize (asked kn l).length = N at HSC hal HAK ⊢
          go_wp2_with fail
          go_loopw [26] (fun i wx => ∃ k : Nat, k ≤ N ∧ i = .int .i64 k ∧ Hid (CtB w3 wx g kb kn (stK S E kn l k)) ∧ Hid (Kp g w8 wx)) (fun i _ => N - (intOf i).toNat)
          case atStart => exact ⟨0, by omega, rfl, HC8, Lib.hid (Kp.refl _ _)⟩
          case round =>
            clear HC8
            obtain ⟨k, hk, rfl, HC, HK⟩ := hrel
            by_cases hlt : k < N
            · obtain ⟨ci, r, r', q, b1, c1', b2, c2', hci, he1, he2, hb1, hb2, hR, hSt, hcl, HA0⟩ := HSC.out k hlt
              cases he1
              cases he2
              obtain ⟨z1, hq⟩ := hcl _ HK.out
              have hp := HC.out.cells hR
              have hth := HC.out.there hci
              have n3 := HC.out.gs
              have n1 := Nat.lt_of_lt_of_le hb1 HK.out.s
              have n2 := Nat.lt_of_lt_of_le hb2 HK.out.s
              have p0 := hp 0 (by omega); have p1 := hp 1 (by omega); have p2 := hp 2 (by omega); have p3 := hp 3 (by omega); have p4 := hp 4 (by omega); have p5 := hp 5 (by omega); have p6 := hp 6 (by omega); have p7 := hp 7 (by omega); have p8 := hp 8 (by omega); have p9 := hp 9 (by omega)
              have q0 := hq 0 (by omega); have q1 := hq 1 (by omega); have q2 := hq 2 (by omega); have q3 := hq 3 (by omega); have q4 := hq 4 (by omega); have q5 := hq 5 (by omega); have q6 := hq 6 (by omega); have q7 := hq 7 (by omega); have q8 := hq 8 (by omega)
              have HS := Lib.hid hSt
              have HA1 := Lib.hid HA0
              clear hp hq hR hSt HA0 hcl
              obtain ⟨qk, qs, qe, qq, qm, qn, ⟨qo, qp⟩, qb⟩ := q
              obtain ⟨xu, xf, ⟨xde, xds⟩, xb, xo, ⟨xie, xis⟩, xm, xs'⟩ := r
              obtain ⟨yu, yf, ⟨yde, yds⟩, yb, yo, ⟨yie, yis⟩, ym, ys⟩ := r'
              simp only [Ak.cs, Rc.cs, List.getElem?_cons_zero, List.getElem?_cons_succ, Nat.add_zero] at p0 p1 p2 p3 p4 p5 p6 p7 p8 p9 q0 q1 q2 q3 q4 q5 q6 q7 q8
              have i0 : (0 : Int) ≤ (ci : Int) := by omega
              have i1 : (ci : Int) < 6 := by omega
              have i2 : (0 : Int) ≤ (k : Int) := by omega
              have i3 : (k : Int) < (N : Int) := by omega
              go_upto_region 36 with fail
              refine rset14 (by kernel_rfl) z1 q0 q1 q2 q3 q4 q5 q6 q7 q8 p0 p1 p2 p3 p4 p5 p6 p7 p8 p9 hth n1 n2 n3 i1 i3 HA1 ?_
              clear p0 p1 p2 p3 p4 p5 p6 p7 p8 p9 q0 q1 q2 q3 q4 q5 q6 q7 q8 hth z1 HA1
              intro W8
              intros
              rename_i hb8
              have HC9 : Hid (CtB w3 (W8.setCells g (ci * 10) (⟨yu, yf, ⟨yde, yds⟩, yb, yo, ⟨yie, yis⟩, ym, ys⟩ : Rc).cs) g kb kn (stK S E kn l (k + 1))) := Lib.hid (by rw [HS.out]; exact (HC.out.below hb8).store hci _)
              have HK9 := Lib.hid ((HK.out.below hb8).store (ci * 10) (⟨yu, yf, ⟨yde, yds⟩, yb, yo, ⟨yie, yis⟩, ym, ys⟩ : Rc).cs)
              generalize W8.setCells g (ci * 10) (⟨yu, yf, ⟨yde, yds⟩, yb, yo, ⟨yie, yis⟩, ym, ys⟩ : Rc).cs = W9 at HC9 HK9 ⊢
              clear HC HK HS
              go_wp2_with fail
              go_roundw
              case rel => exact ⟨k + 1, by omega, by go_num, HC9, HK9⟩
              case measure => simp [intOf]; omega
            · obtain rfl : k = N := by omega
              clear HK HSC
              generalize stK S E kn l k = fin at HC HAK
              go_wp2_with fail
              go_loopw [27, 28, 29] (fun s27 s28 i wy => ∃ (j mm : Nat) (D : Int), j ≤ C.length ∧ mm ≤ j ∧ i = .int .i64 j ∧ s27 = .int .i64 mm ∧ s28 = .int .i64 D ∧ Hid (D = if F then (mm : Int) else 0) ∧ Hid (0 < mm → allO u.parts = true → F = true) ∧ Hid (CtB w3 wy g kb kn fin)) (fun _ _ i _ => C.length - (intOf i).toNat)
              case atStart => exact ⟨0, 0, 0, Nat.zero_le _, Nat.le_refl _, rfl, rfl, rfl, by show _ = _; cases F <;> rfl, Lib.hid fun h => absurd h (by omega), HC⟩
              case round =>
                clear HC
                obtain ⟨j, mm, D, hj, hmj, rfl, rfl, rfl, HD, HM, HC⟩ := hrel
                by_cases hjl : j < C.length
                · obtain ⟨ci, hci, hCj, hfin, hall⟩ := HAK.out j hjl
                  obtain ⟨bc, oc, rfl, hbc, hcc⟩ := (HRC.out.below HC.out.w).at1 j hjl
                  rw [List.getElem?_map, List.getElem?_eq_getElem hjl] at hcc
                  simp only [Option.map_some] at hcc
                  rw [hCj] at hcc
                  obtain ⟨t0, _⟩ := HC.out.bool hci
                  have i0 : (0 : Int) ≤ (ci : Int) := by omega
                  have i1 : (ci : Int) < 6 := by omega
                  have i2 : (0 : Int) ≤ (j : Int) := by omega
                  have i3 : (j : Int) < (C.length : Int) := by omega
                  have HFI := Lib.hid hfin
                  have HAL := Lib.hid hall
                  clear hfin hall hCj
                  cases hkn : kn.getD ci false
                  · rw [hkn] at t0
                    clear hkn HFI HAL
                    as_aux_lemma =>
                      go_wp2_with fail
                      go_roundw
                      case rel => exact ⟨j + 1, mm, D, by omega, by omega, by go_num, rfl, rfl, HD, HM, HC⟩
                      case measure => simp [intOf]; omega
                  · rw [hkn] at t0
                    have hr := HFI.out hkn
                    have hal2 := HAL.out hkn
                    have HM2 : Hid (0 < mm + 1 → allO u.parts = true → F = true) := Lib.hid fun _ h => hal2 h
                    clear HFI HAL hkn HM
                    have bTW : Blk wr T 34 _ := (HC.out.w.block T HBT.out.lt).trans HBT.out
                    have t1 := bTW.cell 0
                    have t2 := bTW.cell 1
                    simp only [List.getElem?_toArray, List.getElem?_cons_zero, List.getElem?_cons_succ] at t1 t2
                    have hlL : j < L.length := by rw [HFITS.out.n]; exact hjl
                    obtain ⟨bl, ol, rfl, hbl, hcl⟩ := (HRL.out.below HC.out.w).at1 j hjl
                    rw [List.getElem?_map, List.getElem?_eq_getElem hlL] at hcl
                    simp only [Option.map_some] at hcl
                    rw [show L.getD j ⟨#[]⟩ = L[j] from by rw [List.getD_eq_getElem?_getD, List.getElem?_eq_getElem hlL]; rfl] at hr
                    generalize L[j] = b at hr hcl
                    have heq := eqTag
                    clear bTW hal2
                    cases F
                    · have hp := HC.out.cells hr
                      have p2 := hp 2 (by omega); have p3 := hp 3 (by omega); have p4 := hp 4 (by omega); have p5 := hp 5 (by omega)
                      have hD0 : D = 0 := HD.out
                      subst hD0
                      simp only [Rc.cs, baseR, s16, Bool.false_eq_true, if_false, List.getElem?_cons_zero, List.getElem?_cons_succ] at p2 p3 p4 p5
                      have hne : ((0 : Int) == E) = false := by rw [beq_eq_false_iff_ne]; omega
                      have HD2 : Hid ((0 : Int) = if (false = true) then ((mm + 1 : Nat) : Int) else 0) := Lib.hid rfl
                      clear hp hr HD
                      as_aux_lemma =>
                        go_wp2_with fail
                        go_quiet (fail)
                        go_wp2_with fail
                        go_roundw
                        case rel => exact ⟨j + 1, mm + 1, 0, by omega, by omega, by go_num, by go_num, rfl, HD2, HM2, Lib.hid (HC.out.below (below_drewN (Below.refl _ _) _))⟩
                        case measure => simp [intOf]; omega
                    · have hp := HC.out.cells hr
                      have p2 := hp 2 (by omega); have p3 := hp 3 (by omega); have p4 := hp 4 (by omega); have p5 := hp 5 (by omega)
                      have hD0 : D = (mm : Int) := HD.out
                      subst hD0
                      simp only [Rc.cs, doneR, if_true, List.getElem?_cons_zero, List.getElem?_cons_succ] at p2 p3 p4 p5
                      have HD2 : Hid (((mm + 1 : Nat) : Int) = if (true = true) then ((mm + 1 : Nat) : Int) else 0) := Lib.hid rfl
                      clear hp hr HD
                      as_aux_lemma =>
                        go_wp2_with fail
                        go_quiet (fail)
                        go_wp2_with fail
                        go_quiet (fail)
                        go_wp2_with fail
                        go_roundw
                        case rel => exact ⟨j + 1, mm + 1, ((mm + 1 : Nat) : Int), by omega, by omega, by go_num, by go_num, by go_num, HD2, HM2, Lib.hid (HC.out.below (below_drewN (Below.refl _ _) _))⟩
                        case measure => simp [intOf]; omega
                · obtain rfl : j = C.length := by omega
                  have HBB := Lib.hid (below_then HWW.out HC.out.w)
                  cases F
                  · have hD0 : D = 0 := HD.out
                    subst hD0
                    cases sec
                    · go_wp2_with fail
                      go_ret
                      exact ⟨rfl, HBB.out⟩
                    · obtain rfl : mm = 0 := by
                        rcases Nat.eq_zero_or_pos mm with h | h
                        · exact h
                        · have := HM.out h (HSEC.out rfl)
                          cases this
                      go_wp2_with fail
                      go_ret
                      exact ⟨rfl, HBB.out⟩
                  · have hD0 : D = (mm : Int) := HD.out
                    subst hD0
                    by_cases hz : mm = 0
                    all_goals cases sec
                    all_goals
                      go_wp2_with fail
                      go_ret
                      exact ⟨rfl, HBB.out⟩
end Go.Proofs.Ytaeeflfhjmjpjaa
