/- The walk of UpdateEnds. (Its beginning is printed by u_template.py.) -/
import Derived.Test.YtaeeflfhjmjpjaaUste
import Derived.Test.YtaeeflfhjmjpjaaUargs
import Derived.Test.YtaeeflfhjmjpjaaUsay
import Derived.Deep.CutRange
import Derived.StillTailTactics
namespace Go.Proofs.Ytaeeflfhjmjpjaa
open Go.RowKit SlRd
set_option linter.unusedVariables false

set_option maxRecDepth 100000 in
set_option maxHeartbeats 6400000 in
theorem updateEnds_walk (x : Rw) (vt : Value) (order : List Int) (vo : Value) (w : World) (hr : Rd w 1 vt x.texts.length (x.texts.map Value.string)) (hx : x.ok) (hrl : x.texts.length ≤ 140737488351232)
    (ho : Rd w 1 vo order.length (IV order)) (hok : ∀ a ∈ order, -9223372036854775808 ≤ a ∧ a ≤ 9223372036854775807) (hol : order.length ≤ 140737488351232) :
    Calls Try.prog 11 #[.agg #[.int .i64 x.stripe, .int .i64 x.mask, .int .i64 x.epoch, .int .i64 x.seq, vt], vo] w fun e w' => e = .returned (.bool true) ∧ Below w.heap.size w w' := by
  obtain ⟨ao, co, rfl⟩ : ∃ a c, vo = .slice a order.length c := by obtain ⟨_, a, c, rfl, _⟩ := ho; exact ⟨_, _, rfl⟩
  have HOK := Lib.hid hok
  have HRO := Lib.hid ho
  have HPK : Hid (∀ (a : Int), (-9223372036854775808 ≤ a ∧ a ≤ 9223372036854775807) → ∀ n : Nat, 0 < n → n ≤ 100 → ∀ W, Calls Try.prog 33 #[.int .i64 a, .int .i64 n] W fun e w' => e = .returned (.int .i64 (pk a n)) ∧ W = w') := Lib.hid fun a ha n h1 h2 W => pick33_any a n ha (by omega) (by omega) W
  clear hok ho
  have hfits := fits_of x
  have HFIT := Lib.hid (fun W h => fit_any x hx vt W h hrl)
  obtain ⟨xs, xm, xe, xq, xt⟩ := x
  simp only at HFIT hr hrl ⊢
  generalize fS ⟨xs, xm, xe, xq, xt⟩ = S at HFIT hfits
  generalize fE ⟨xs, xm, xe, xq, xt⟩ = E at HFIT hfits
  generalize fQ ⟨xs, xm, xe, xq, xt⟩ = Q at HFIT hfits
  generalize fC ⟨xs, xm, xe, xq, xt⟩ = C at HFIT hfits
  generalize fB ⟨xs, xm, xe, xq, xt⟩ = L at HFIT hfits
  have hn6 := hfits.len
  have hn0 := hfits.n0
  have HFITS := Lib.hid hfits
  clear hfits hx
  go_enter Try.func11, Try.ntmps11
  go_upto_region 1 with fail
  have bX := Blk.new w 53 #[.int .i64 xs, .int .i64 xm, .int .i64 xe, .int .i64 xq, vt]
  have hbX := (Below.refl w.heap.size w).alloc (Nat.le_refl _) (.cells #[.int .i64 xs, .int .i64 xm, .int .i64 xe, .int .i64 xq, vt] 53)
  have hrX := hr.below hbX
  generalize w.alloc (.cells #[.int .i64 xs, .int .i64 xm, .int .i64 xe, .int .i64 xq, vt] 53) = wX at bX hbX hrX ⊢
  generalize w.heap.size = X at bX ⊢
  have HWX := Lib.hid hbX
  clear hr hbX
  go_wp2_with fail
  refine (awake16_any _).mono ?_; rintro e w1 ⟨rfl, hb1⟩
  have bX1 : Blk w1 X 53 _ := (hb1.block X bX.lt).trans bX
  have hr1 := hrX.below hb1
  have HW1 := Lib.hid (below_then HWX.out hb1)
  have t0 := bX1.cell 0; have t1 := bX1.cell 1; have t2 := bX1.cell 2; have t3 := bX1.cell 3; have t4 := bX1.cell 4
  simp only [List.getElem?_toArray, List.getElem?_cons_zero, List.getElem?_cons_succ] at t0 t1 t2 t3 t4
  have hs01 := HW1.out.size
  clear bX hb1 hrX bX1 HWX
  go_wp2_with fail
  refine (HFIT.out _ hr1).mono ?_; rintro e w2 ⟨vc, vl, rfl, oc, ol, hb2⟩
  obtain ⟨ac, cc, rfl⟩ : ∃ a c, vc = .slice a C.length c := by obtain ⟨_, a, c, hv, _⟩ := Rd.of_owns oc; exact ⟨a, c, hv⟩
  obtain ⟨al, cl, rfl⟩ : ∃ a c, vl = .slice a C.length c := by obtain ⟨_, a, c, hv, _⟩ := Rd.of_owns ol; exact ⟨a, c, hv⟩
  have HW2 := Lib.hid (below_then HW1.out hb2)
  clear hr1 hb2 t0 t1 t2 t3 t4 HW1
  go_upto_region 3 with fail
  have bT := Blk.new w2 34 #[.int .i64 E, .int .i64 Q]
  have oc3 := oc.alloc (.cells #[.int .i64 E, .int .i64 Q] 34)
  have ol3 := ol.alloc (.cells #[.int .i64 E, .int .i64 Q] 34)
  have HW3 := Lib.hid (below_al HW2.out (.cells #[.int .i64 E, .int .i64 Q] 34))
  generalize w2.alloc (.cells #[.int .i64 E, .int .i64 Q] 34) = w3 at bT oc3 ol3 HW3 ⊢
  generalize w2.heap.size = T at bT ⊢
  clear oc ol HW2
  have t0 := bT.cell 0; have t1 := bT.cell 1
  simp only [List.getElem?_toArray, List.getElem?_cons_zero, List.getElem?_cons_succ] at t0 t1
  have rc3 := Rd.of_owns oc3
  have rl3 := Rd.of_owns ol3
  go_wp2_with fail
  refine (newW HFITS.out (.slice ac C.length cc) (.slice al C.length cl) w3 rc3 (by rw [HFITS.out.n]; exact rl3) w3 (Below.refl _ _)).mono ?_; rintro e w4 ⟨B, v, rfl, hU, hb4, hB4, hv4⟩
  have hpl := parts_len HFITS.out
  have HPL := Lib.hid hpl
  clear t0 t1 hpl
  have bT4 : Blk w4 T 34 _ := (hb4.block T bT.lt).trans bT
  have t0 := bT4.cell 0
  simp only [List.getElem?_toArray, List.getElem?_cons_zero] at t0
  go_wp2_with fail
  refine (columnsOf_any E _).mono ?_; rintro e w5 ⟨vn, rfl, on, hb5⟩
  obtain ⟨g, cap, rfl, hgb, hgl⟩ := on.form (by omega)
  have hm1 := maskOf_pos hn0
  have hm2 := maskOf_lt C HFITS.out.bd
  have hgB : ¬ US B v g := by
    rintro (h | h)
    · have := hU.o.h.lt
      omega
    · have := (owns_lt hU.o.own g h).2
      omega
  have hw34 := hb4.size
  have HS0 : Hid (StE w3 E Q (maskOf C : Nat) B v g (newU S E Q C L) (List.replicate 6 (baseR E s16)) w5) :=
    Lib.hid ⟨hU.below hb5, EI.new HFITS.out, RowsOf.of_owns (fun _ => rfl) on rfl, hgl, by omega, hgB⟩
  have HI0 := Lib.hid (Iv.new HFITS.out)
  have hmu0 := mu_new HFITS.out
  have HRC := Lib.hid rc3
  have HRL := Lib.hid rl3
  have HBT := Lib.hid bT
  have HWW := Lib.hid HW3.out
  have HRO3 := Lib.hid (HRO.out.below HWW.out)
  have hn0' := hn0
  clear hU hb4 bT oc3 ol3 rl3 rc3 bT4 t0 on hb5 hgB hgb hgl hw34 hB4 hv4
  go_upto_block 0 with fail
  go_cut [13, 14, 15, 16, 17, 18, 19] from 52 to 141 (fun s13 s14 s15 s16 s17 s18 s19 wx => ∃ u R, Hid (StE w3 E Q (maskOf C : Nat) B v g u R wx) ∧ Hid (Iv S E Q C L u) ∧ (stU u = 2 ∨ (stU u ≠ 2 ∧ 16 ≤ order.length)))
  case first =>
    as_aux_lemma =>
      go_wp2_with fail
      go_loopw [13] (fun i wr => ∃ k : Nat, k ≤ 40 ∧ i = .int .i64 k ∧ ∃ u R, Hid (StE w3 E Q (maskOf C : Nat) B v g u R wr) ∧ Hid (Iv S E Q C L u) ∧ mu u + k ≤ 12 + min k order.length) (fun i _ => 40 - (intOf i).toNat)
      case atStart => exact ⟨0, by omega, rfl, _, _, HS0, HI0, by omega⟩
      case round =>
        clear HS0 HI0 hmu0
        obtain ⟨k, hk, rfl, u, R, HE, HI, hmu⟩ := hrel
        have hul := HI.out.len
        have HST := Lib.hid (stateW HE.out.w (by omega))
        have hs3 := st_cases HI.out.f
        by_cases hlt : k < 40
        · by_cases h2 : stU u = 2
          · rw [h2] at HST
            go_wp2_with fail
            refine HST.out.mono ?_; rintro e w6 ⟨rfl, hU6, hb6⟩
            have HE6 := Lib.hid (HE.out.below hb6)
            clear hU6 hb6
            go_wp2_with fail
            go_meet
            exact ⟨u, R, HE6, HI, .inl h2⟩
          · have hlt2 : (decide (stU u < 2)) = true := by rw [decide_eq_true_iff]; omega
            have hpos : (toAsk u).length ≠ 0 := fun h0 => h2 (st_none HI.out.f h0)
            have hst2 : stU u < 2 := by omega
            generalize hsu : stU u = st at HST hlt2 hst2
            go_wp2_with fail
            refine HST.out.mono ?_; rintro e w6 ⟨rfl, hU6, hb6⟩
            have HE6 := Lib.hid (HE.out.below hb6)
            have HAW := Lib.hid (asksW HE6.out.w (by omega))
            clear hU6 hb6
            go_wp2_with fail
            refine HAW.out.mono ?_; rintro e w7 ⟨v1, v2, rfl, o1, o2, hU7, ht7⟩
            have hE7 := HE6.out.touch ht7 hU7 HE6.out.e.begun
            obtain ⟨g1, c1, rfl, hg1, hg1'⟩ := o1.form (by omega)
            obtain ⟨g2, c2, rfl, hg2, hg2'⟩ := o2.form (by omega)
            have hg6 := HE6.out.gs
            have hne : (((toAsk u).length : Int) != ((toAsk u).length : Int)) = false := by simp
            have hz2 : (((toAsk u).length : Int) == 0) = false := by rw [beq_eq_false_iff_ne]; omega
            have htl : (toAsk u).length ≤ 6 := by
              have := List.length_filter_le (wants (stU u)) u.parts
              unfold toAsk
              omega
            have HE7 := Lib.hid hE7
            have HRN := Lib.hid (fun j hj => round_cells HFITS.out HI.out rfl (by omega) (by omega) HE6.out.e o1 o2 j hj)
            have hgg1 : g1 ≠ g := by omega
            have hgg2 : g2 ≠ g := by omega
            clear HAW ht7 hU7 o1 o2 hE7 hg1 hg2 hg6
            go_upto_if 79 with fail
            go_cut [16, 17] from 52 to 141 (fun s16 s17 wx => ∃ (jj : Nat) (b : Bool), jj < (toAsk u).length ∧ s16 = .int .i64 jj ∧ s17 = .bool b ∧ (b = true → k < order.length) ∧ w7 = wx)
            case first =>
              by_cases hkn : k < order.length
              · obtain ⟨bo, oo, rfl, hbo1, hco⟩ := (HE7.out.w.rd HRO3.out).at1 k hkn
                unfold IV at hco
                rw [List.getElem?_map, List.getElem?_eq_getElem hkn] at hco
                simp only [Option.map_some] at hco
                have hab := HOK.out _ (List.getElem_mem hkn)
                have HP := Lib.hid (HPK.out order[k] hab (toAsk u).length (by omega) (by omega))
                have hpb := pk_bd order[k] (toAsk u).length (by omega)
                generalize order[k] = oa at hco HP hpb
                obtain ⟨jj, hjj⟩ : ∃ n : Nat, pk oa (toAsk u).length = n := ⟨(pk oa (toAsk u).length).toNat, by omega⟩
                rw [hjj] at HP hpb
                have i0 : (0 : Int) ≤ (k : Int) := by omega
                have i1 : (k : Int) < (order.length : Int) := by omega
                go_wp2_with fail
                refine (HP.out _).mono ?_; rintro e w8 ⟨rfl, rfl⟩
                go_wp2_with fail
                go_meet
                exact ⟨jj, _, by omega, rfl, rfl, fun _ => hkn, rfl⟩
              · have i1 : ¬ (k : Int) < (order.length : Int) := by omega
                go_wp2_with fail
                go_meet
                exact ⟨0, false, by omega, rfl, rfl, fun h => (by cases h), rfl⟩
            case rest =>
              obtain ⟨jj, b, hjj, rfl, rfl, hbk, rfl⟩ := hcut
              obtain ⟨ci, q, r, r', hci, hR, z1, hq, hqk, HA0, he1, he2, hiv, hmu2, hlen2⟩ := HRN.out jj hjj
              have hp := HE7.out.cells hci hR
              have p0 := hp 0 (by omega); have p1 := hp 1 (by omega); have p2 := hp 2 (by omega); have p3 := hp 3 (by omega); have p4 := hp 4 (by omega); have p5 := hp 5 (by omega); have p6 := hp 6 (by omega); have p7 := hp 7 (by omega); have p8 := hp 8 (by omega); have p9 := hp 9 (by omega)
              have q0 := hq 0 (by omega); have q1 := hq 1 (by omega); have q2 := hq 2 (by omega); have q3 := hq 3 (by omega); have q4 := hq 4 (by omega); have q5 := hq 5 (by omega); have q6 := hq 6 (by omega); have q7 := hq 7 (by omega); have q8 := hq 8 (by omega)
              have HE2 := Lib.hid he1
              have HE3 := Lib.hid he2
              have HIV := Lib.hid hiv
              have hR' := hR
              clear hp hq he1 he2 hiv HRN hR hR'
              obtain ⟨qk, qs, qe, qq, qm, qn, ⟨qo, qp⟩, qb⟩ := q
              obtain ⟨xu, xf, ⟨xde, xds⟩, xb, xo, ⟨xie, xis⟩, xm, xs'⟩ := r
              obtain ⟨yu, yf, ⟨yde, yds⟩, yb, yo, ⟨yie, yis⟩, ym, ys⟩ := r'
              simp only [Ak.cs, Rc.cs, List.getElem?_cons_zero, List.getElem?_cons_succ, Nat.add_zero] at p0 p1 p2 p3 p4 p5 p6 p7 p8 p9 q0 q1 q2 q3 q4 q5 q6 q7 q8
              have HA := Lib.hid HA0
              clear HA0
              simp only at hqk HE3 HIV hmu2 hlen2
              have i0 : (0 : Int) ≤ (ci : Int) := by omega
              have i1 : (ci : Int) < 6 := by omega
              have i2 : (0 : Int) ≤ (jj : Int) := by omega
              have i3 : (jj : Int) < ((toAsk u).length : Int) := by omega
              have n3 := HE7.out.gs
              go_upto_region 20 with fail
              refine rapp11 (by kernel_rfl) z1 q0 q1 q2 q3 q4 q5 q6 q7 q8 p0 p1 p2 p3 p4 p5 p6 p7 p8 p9 hg1' hg2' n3 i1 i3 HA ?_
              clear p0 p1 p2 p3 p4 p5 p6 p7 p8 p9 q1 q2 q3 q4 q5 q6 q7 q8 HA
              intro W8 A As
              intros
              rename_i hNx
              have y0 := hNx.a 0; have y1 := hNx.a 1; have y2 := hNx.a 2; have y3 := hNx.a 3; have y4 := hNx.a 4; have y5 := hNx.a 5; have y6 := hNx.a 6; have y7 := hNx.a 7; have y8 := hNx.a 8; have y9 := hNx.a 9
              simp only [List.getElem?_cons_zero, List.getElem?_cons_succ] at y0 y1 y2 y3 y4 y5 y6 y7 y8 y9
              have x1 := (hNx.b.cell (p := ⟨g1, jj, none⟩) hg1').trans z1
              have x2 := (hNx.b.cell (p := ⟨g2, jj * 9, none⟩) hg2').trans q0
              have x3 := hNx.s
              have hE8 := HE7.out.below (hNx.b.drew)
              have hth := hE8.there hci
              have hAg : As ≠ g := by have := hNx.b0; omega
              have hE9 := Lib.hid (hE8.store hci (⟨yu, yf, ⟨yde, yds⟩, yb, yo, ⟨yie, yis⟩, ym, ys⟩ : Rc) HE2.out)
              clear z1 q0 hNx hE8 HE2
              go_wp2_with fail
              go_still_tail 7, (by kernel_rfl)
              change wpList _ _ _ _ _ W8.drew
              go_upto_region 22 with (refine wpList_store_mid rfl 37 (.tmp 126) (.tmp 125) rfl g (ci * 10) (Rc.cs ⟨yu, yf, ⟨yde, yds⟩, yb, yo, ⟨yie, yis⟩, ym, ys⟩).toArray rfl rfl ?_ ?_ (rc_one ⟨yu, yf, ⟨yde, yds⟩, yb, yo, ⟨yie, yis⟩, ym, ys⟩) ?_; exact hth; exact size37)
              have x1' : (W8.drew.setCells g (ci * 10) (Rc.cs ⟨yu, yf, ⟨yde, yds⟩, yb, yo, ⟨yie, yis⟩, ym, ys⟩)).cell? ⟨g1, jj, none⟩ = _ := (far_cell hgg1).trans x1
              have x2' : (W8.drew.setCells g (ci * 10) (Rc.cs ⟨yu, yf, ⟨yde, yds⟩, yb, yo, ⟨yie, yis⟩, ym, ys⟩)).cell? ⟨g2, jj * 9, none⟩ = _ := (far_cell hgg2).trans x2
              have x3' : (W8.drew.setCells g (ci * 10) (Rc.cs ⟨yu, yf, ⟨yde, yds⟩, yb, yo, ⟨yie, yis⟩, ym, ys⟩)).cell? ⟨As, 0, none⟩ = _ := (far_cell hAg).trans x3
              clear y0 y1 y2 y3 y4 y5 y6 y7 y8 y9 x1 x2 x3 hth
              generalize W8.drew.setCells g (ci * 10) (Rc.cs ⟨yu, yf, ⟨yde, yds⟩, yb, yo, ⟨yie, yis⟩, ym, ys⟩) = W9 at hE9 x1' x2' x3' ⊢
              cases b
              · have hE9d := hE9.out.below (Below.refl W9.heap.size W9).drew
                have HSD : Hid (Calls Try.prog 34 #[.pointer (some ⟨B, 0, none⟩), .int .i64 ci, .int .i64 qk, .int .i64 1] W9.drew fun e w' => e = .returned (.tuple #[]) ∧ StE w3 E Q (maskOf C : Nat) B v g (saidU (begun u) (ci : Int) qk 1) (R.set ci (⟨yu, yf, ⟨yde, yds⟩, yb, yo, ⟨yie, yis⟩, ym, ys⟩ : Rc)) w') := Lib.hid (by
                  refine (saidW hE9d.w (by rw [begun_parts]; omega) (ci : Int) qk 1).mono ?_
                  rintro e W10 ⟨rfl, hU10, ht10⟩
                  exact ⟨rfl, hE9d.touch ht10 hU10 HE3.out⟩)
                have HMU : Hid (mu (saidU (begun u) (ci : Int) qk 1) + (k + 1) ≤ 12 + min (k + 1) order.length) := Lib.hid (by omega)
                clear hE9d hE9 hmu hmu2 hlen2 hs3 hpos hsu HST hlt2 hst2 hgg1 hgg2 hAg hbk hqk hne hz2 n3 h2 hul hg1' hg2' hm1 hm2 HE3
                have X1 := Lib.hid x1'
                have X2 := Lib.hid x2'
                have X3 := Lib.hid x3'
                clear x1' x2' x3'
                go_wp2_with fail
                refine rsay11 (by kernel_rfl) X1.out X2.out X3.out i3 HSD ?_
                intro W10
                intros
                rename_i hE10
                have HE10 := Lib.hid hE10
                clear hE10 HSD X1 X2 X3
                go_wp2_with fail
                go_roundw
                case rel => exact ⟨k + 1, by omega, by go_num, _, _, HE10, HIV, HMU.out⟩
                case measure => simp [intOf]; omega
              · have hkn := hbk rfl
                have hmb : mu (begun u) = mu u := rfl
                clear x1' x2' x3'
                go_wp2_with fail
                go_roundw
                case rel => exact ⟨k + 1, by omega, by go_num, _, _, hE9, Lib.hid HI.out.begun, by omega⟩
                case measure => simp [intOf]; omega
        · obtain rfl : k = 40 := by omega
          go_wp2_with fail
          go_meet
          exact ⟨u, R, HE, HI, by omega⟩
  case rest =>
    clear HS0 HI0 hmu0
    obtain ⟨u, R, HE, HI, hor⟩ := hcut
    have hul := HI.out.len
    have HST := Lib.hid (fun W (h : UW w3 W B v u) => stateW h (by omega))
    by_cases h2 : stU u = 2
    · rw [h2] at HST
      have HL := Lib.hid (fun i hi => ends_law HFITS.out HI.out HE.out.e h2 i hi)
      clear hor
      go_upto_region 24 with fail
      go_cut [149] from 142 to 148 (fun s149 wx => s149 = .bool false ∧ Hid (StE w3 E Q (maskOf C : Nat) B v g u R wx))
      case first =>
        by_cases hn : order.length < 16
        · have i1 : (order.length : Int) < 16 := by omega
          go_wp2_with fail
          refine (HST.out _ HE.out.w).mono ?_; rintro e w6 ⟨rfl, hU6, hb6⟩
          have HE6 := Lib.hid (HE.out.below hb6)
          clear hU6 hb6
          go_wp2_with fail
          go_meet
          exact ⟨rfl, HE6⟩
        · have i1 : ¬ (order.length : Int) < 16 := by omega
          go_wp2_with fail
          go_meet
          exact ⟨rfl, HE⟩
      case rest =>
        clear HE
        obtain ⟨rfl, HE⟩ := hcut
        go_wp2_with fail
        refine (HST.out _ HE.out.w).mono ?_; rintro e w6 ⟨rfl, hU6, hb6⟩
        have HE6 := Lib.hid (HE.out.below hb6)
        have HTT : Hid (∀ W, Below w6.heap.size w6 W → W.cell? ⟨T, 0, none⟩ = some (.int .i64 E) ∧ W.cell? ⟨T, 1, none⟩ = some (.int .i64 Q)) := Lib.hid fun W hb => by
          have bTW : Blk W T 34 _ := ((HE6.out.w.below hb).w.block T HBT.out.lt).trans HBT.out
          exact ⟨bTW.cell 0, bTW.cell 1⟩
        clear hU6 hb6 HE HST
        go_wp2_with fail
        go_loopw [20] (fun i wr => ∃ k : Nat, k ≤ 6 ∧ i = .int .i64 k ∧ Hid (Below w6.heap.size w6 wr)) (fun i _ => 6 - (intOf i).toNat)
        case atStart => exact ⟨0, by omega, rfl, Lib.hid (Below.refl _ _)⟩
        case round =>
          obtain ⟨k, hk, rfl, HB⟩ := hrel
          by_cases hlt : k < 6
          · have t0 := (HTT.out _ HB.out).1
            go_upto_region 32 with fail
            have hN := Nw.new wr (baseR E s16).cs 37
            have hbA := (Below.refl wr.heap.size wr).alloc (Nat.le_refl _) (.cells (baseR E s16).cs.toArray 37)
            change Code.wp _ _ _ _ (wr.alloc (.cells (baseR E s16).cs.toArray 37))
            generalize wr.alloc (.cells (baseR E s16).cs.toArray 37) = w7 at hN hbA ⊢
            have h6r := HB.out.size
            generalize hA : wr.heap.size = A at hN ⊢
            have hAw := Nat.le_of_eq hA
            clear hA
            have HN7 := Lib.hid hN
            have HB7 := Lib.hid hbA
            clear hN hbA t0
            go_wp2_with fail
            go_loopw [22] (fun j wx => ∃ jj : Nat, jj ≤ C.length ∧ j = .int .i64 jj ∧ Hid (Nw wx A (wantR E Q C L k jj).cs) ∧ Hid (Below wr.heap.size wr wx)) (fun j _ => C.length - (intOf j).toNat)
            case atStart => exact ⟨0, by omega, rfl, HN7, HB7⟩
            case round =>
              clear HN7 HB7
              obtain ⟨jj, hj, rfl, HN, HBx⟩ := hrel
              have hb6x := Lib.hid (HB.out.trans (HBx.out.mono HB.out.size))
              by_cases hjl : jj < C.length
              · have hlL : jj < L.length := by rw [HFITS.out.n]; exact hjl
                have hU := HE6.out.w.below hb6x.out
                obtain ⟨bc, oc, rfl, hbc, hcc⟩ := (hU.rd HRC.out).at1 jj hjl
                obtain ⟨bl, ol, rfl, hbl, _⟩ := HRL.out.at1 jj hjl
                obtain ⟨bl', ol', he, _, hcl⟩ := (hU.rd HRL.out).at1 jj hjl
                cases he
                have hblA : A ≠ bl := by
                  have h1 := HE6.out.w.w.size
                  have h2 := HB.out.size
                  omega
                rw [List.getElem?_map, List.getElem?_eq_getElem hjl] at hcc
                rw [List.getElem?_map, List.getElem?_eq_getElem hlL] at hcl
                simp only [Option.map_some] at hcc hcl
                have hW := wantR_succ (E := E) (Q := Q) (C := C) (L := L) k jj
                rw [show C.getD jj 0 = C[jj] from by rw [List.getD_eq_getElem?_getD, List.getElem?_eq_getElem hjl]; rfl, show L.getD jj ⟨#[]⟩ = L[jj] from by rw [List.getD_eq_getElem?_getD, List.getElem?_eq_getElem hlL]; rfl] at hW
                generalize C[jj] = c at hcc hW
                generalize L[jj] = y at hcl hW
                generalize wantR E Q C L k jj = rr at hW HN
                have HWR := Lib.hid hW
                obtain ⟨t0, t1⟩ := HTT.out _ hb6x.out
                have i0 : (0 : Int) ≤ (jj : Int) := by omega
                have i1 : (jj : Int) < (C.length : Int) := by omega
                obtain ⟨ru, rf, ⟨rde, rds⟩, rb, ro, ⟨rie, ris⟩, rm, rs⟩ := rr
                have y2 := HN.out.1 2; have y3 := HN.out.1 3; have y4 := HN.out.1 4
                have f2 := HN.out.2.1 2; have f3 := HN.out.2.1 3; have f4 := HN.out.2.1 4
                simp only [Rc.cs, List.getElem?_cons_zero, List.getElem?_cons_succ] at y2 y3 y4
                have hcl5 : ((wr.setCell ⟨A, 2, none⟩ (.int .i64 E)).setCell ⟨A, 3, none⟩ (.int .i64 Q)).cell? ⟨bl, ol + jj, none⟩ = some (.string y) := by
                  rw [World.cell?_setCell_far _ _ _ _ hblA, World.cell?_setCell_far _ _ _ _ hblA]
                  exact hcl
                clear hU hW hbc hbl hcl
                by_cases hck : c = (k : Int)
                · subst hck
                  go_wp2_with fail
                  go_roundw
                  case rel =>
                    refine ⟨jj + 1, by omega, by go_num, ?_, ?_⟩
                    · show Nw _ _ _
                      rw [HWR.out, if_pos rfl]
                      exact ((HN.out.set (i := 2) (by simp) (.int .i64 E)).set (i := 3) (by simp) (.int .i64 Q)).set (i := 4) (by simp) (.string y)
                    · exact Lib.hid (((HBx.out.setCell (p := ⟨A, 2, none⟩) hAw _).setCell (p := ⟨A, 3, none⟩) hAw _).setCell (p := ⟨A, 4, none⟩) hAw _)
                  case measure => simp [intOf]; omega
                · have hck' : (c == (k : Int)) = false := by rw [beq_eq_false_iff_ne]; exact hck
                  go_wp2_with fail
                  go_roundw
                  case rel =>
                    refine ⟨jj + 1, by omega, by go_num, ?_, HBx⟩
                    show Nw _ _ _
                    rw [HWR.out, if_neg hck]
                    exact HN.out
                  case measure => simp [intOf]; omega
              · obtain rfl : jj = C.length := by omega
                have hLk := HL.out k hlt
                generalize wantR E Q C L k C.length = rr at hLk HN
                have hp := (HE6.out.below hb6x.out).cells hlt hLk
                have p0 := hp 0 (by omega); have p1 := hp 1 (by omega); have p2 := hp 2 (by omega); have p3 := hp 3 (by omega); have p4 := hp 4 (by omega); have p5 := hp 5 (by omega); have p6 := hp 6 (by omega); have p7 := hp 7 (by omega); have p8 := hp 8 (by omega); have p9 := hp 9 (by omega)
                have y0 := HN.out.1 0; have y1 := HN.out.1 1; have y2 := HN.out.1 2; have y3 := HN.out.1 3; have y4 := HN.out.1 4; have y5 := HN.out.1 5; have y6 := HN.out.1 6; have y7 := HN.out.1 7; have y8 := HN.out.1 8; have y9 := HN.out.1 9
                have heq := fun W => eqRec W rr rr
                simp only [Rc.v, decide_true] at heq
                obtain ⟨ru, rf, ⟨rde, rds⟩, rb, ro, ⟨rie, ris⟩, rm, rs⟩ := rr
                simp only [Rc.cs, List.getElem?_cons_zero, List.getElem?_cons_succ, Nat.add_zero] at p0 p1 p2 p3 p4 p5 p6 p7 p8 p9 y0 y1 y2 y3 y4 y5 y6 y7 y8 y9
                have i0 : (0 : Int) ≤ (k : Int) := by omega
                have i1 : (k : Int) < 6 := by omega
                clear hp hLk HL
                go_upto_region 38 with fail
                go_quiet (fail)
                go_wp2_with fail
                go_roundw
                case rel => exact ⟨k + 1, by omega, by go_num, Lib.hid (below_drewN hb6x.out _)⟩
                case measure => simp [intOf]; omega
          · obtain rfl : k = 6 := by omega
            have HBF := Lib.hid (below_then (below_then HWW.out HE6.out.w.w) HB.out)
            go_wp2_with fail
            go_ret
            exact ⟨rfl, HBF.out⟩
    · have hn : ¬ (order.length : Int) < 16 := by omega
      have hs3 := st_cases HI.out.f
      have hst2 : stU u < 2 := by omega
      have hne2 : (stU u != 2) = true := by rw [bne_iff_ne]; exact h2
      have hlt2 : (decide (stU u < 2)) = true := by rw [decide_eq_true_iff]; omega
      generalize stU u = st at HST hst2 hne2 hlt2
      go_wp2_with fail
      refine (HST.out _ HE.out.w).mono ?_; rintro e w6 ⟨rfl, hU6, hb6⟩
      have HU6 := Lib.hid hU6
      clear hU6 hb6
      go_wp2_with fail
      refine (HST.out _ HU6.out).mono ?_; rintro e w7 ⟨rfl, hU7, hb7⟩
      have HB := Lib.hid (below_then HWW.out hU7.w)
      clear hU7 hb7
      go_wp2_with fail
      go_ret
      exact ⟨rfl, HB.out⟩
end Go.Proofs.Ytaeeflfhjmjpjaa
