/- The walk of UpdateFails. (Its beginning is printed by u_template.py.) -/
import Derived.Test.YtaeeflfhjmjpjaaUinv
import Derived.Test.YtaeeflfhjmjpjaaUargs
import Derived.StillTailTactics
import Derived.Deep.RegionLaw
import Derived.Deep.DrawnRows
namespace Go.Proofs.Ytaeeflfhjmjpjaa
open Go.RowKit SlRd
set_option linter.unusedVariables false
attribute [local go_sem ↓] Go.wp_at_zero Go.wp_at_succ

set_option maxRecDepth 100000 in
set_option maxHeartbeats 6400000 in
theorem updateFails_walk (x : Rw) (vt : Value) (order : List Int) (vo : Value) (who status : Int) (w : World) (hr : Rd w 1 vt x.texts.length (x.texts.map Value.string)) (hx : x.ok) (hrl : x.texts.length ≤ 140737488351232)
    (ho : Rd w 1 vo order.length (IV order)) (hok : ∀ a ∈ order, -9223372036854775808 ≤ a ∧ a ≤ 9223372036854775807) (hol : order.length ≤ 140737488351232) (hwho : -9223372036854775808 ≤ who ∧ who ≤ 9223372036854775807) (hsta : -9223372036854775808 ≤ status ∧ status ≤ 9223372036854775807) :
    Calls Try.prog 12 #[.agg #[.int .i64 x.stripe, .int .i64 x.mask, .int .i64 x.epoch, .int .i64 x.seq, vt], vo, .int .i64 who, .int .i64 status] w fun e w' => e = .returned (.bool true) ∧ Below w.heap.size w w' := by
  obtain ⟨ao, co, rfl⟩ : ∃ a c, vo = .slice a order.length c := by obtain ⟨_, a, c, rfl, _⟩ := ho; exact ⟨_, _, rfl⟩
  have HOK := Lib.hid hok
  have HRO := Lib.hid ho
  have HPK : Hid (∀ (a : Int), (-9223372036854775808 ≤ a ∧ a ≤ 9223372036854775807) → ∀ n : Nat, 0 < n → n ≤ 100 → ∀ W, Calls Try.prog 33 #[.int .i64 a, .int .i64 n] W fun e w' => e = .returned (.int .i64 (pk a n)) ∧ W = w') := Lib.hid fun a ha n h1 h2 W => pick33_any a n ha (by omega) (by omega) W
  have HST := Lib.hid (pick33_any status 6 hsta (by omega) (by omega))
  have bst := pk_bd status 6 (by omega)
  generalize pk status 6 = ps at HST bst
  have HWHO := Lib.hid hwho
  clear hok ho hsta hwho
  have hfits := fits_of x
  have HFIT := Lib.hid (fun W h => fit_any x hx vt W h hrl)
  obtain ⟨xs, xm, xe, xq, xt⟩ := x
  simp only at HFIT hr hrl ⊢
  generalize fS ⟨xs, xm, xe, xq, xt⟩ = S at HFIT hfits
  generalize fE ⟨xs, xm, xe, xq, xt⟩ = E at HFIT hfits
  generalize fQ ⟨xs, xm, xe, xq, xt⟩ = Q at HFIT hfits
  generalize fC ⟨xs, xm, xe, xq, xt⟩ = C at HFIT hfits
  generalize fB ⟨xs, xm, xe, xq, xt⟩ = L at HFIT hfits
  have hn6 := hfits.len
  have hn0 := hfits.n0
  have HFITS := Lib.hid hfits
  clear hfits hx
  go_enter Try.func12, Try.ntmps12
  go_upto_region 1 with fail
  have bX := Blk.new w 53 #[.int .i64 xs, .int .i64 xm, .int .i64 xe, .int .i64 xq, vt]
  have hbX := (Below.refl w.heap.size w).alloc (Nat.le_refl _) (.cells #[.int .i64 xs, .int .i64 xm, .int .i64 xe, .int .i64 xq, vt] 53)
  have hrX := hr.below hbX
  generalize w.alloc (.cells #[.int .i64 xs, .int .i64 xm, .int .i64 xe, .int .i64 xq, vt] 53) = wX at bX hbX hrX ⊢
  generalize w.heap.size = X at bX ⊢
  have HWX := Lib.hid hbX
  clear hr hbX
  go_wp2_with fail
  refine (awake16_any _).mono ?_; rintro e w1 ⟨rfl, hb1⟩
  have bX1 : Blk w1 X 53 _ := (hb1.block X bX.lt).trans bX
  have hr1 := hrX.below hb1
  have HW1 := Lib.hid (below_then HWX.out hb1)
  have t0 := bX1.cell 0; have t1 := bX1.cell 1; have t2 := bX1.cell 2; have t3 := bX1.cell 3; have t4 := bX1.cell 4
  simp only [List.getElem?_toArray, List.getElem?_cons_zero, List.getElem?_cons_succ] at t0 t1 t2 t3 t4
  have hs01 := HW1.out.size
  clear bX hb1 hrX bX1 HWX
  go_wp2_with fail
  refine (HFIT.out _ hr1).mono ?_; rintro e w2 ⟨vc, vl, rfl, oc, ol, hb2⟩
  obtain ⟨ac, cc, rfl⟩ : ∃ a c, vc = .slice a C.length c := by obtain ⟨_, a, c, hv, _⟩ := Rd.of_owns oc; exact ⟨a, c, hv⟩
  obtain ⟨al, cl, rfl⟩ : ∃ a c, vl = .slice a C.length c := by obtain ⟨_, a, c, hv, _⟩ := Rd.of_owns ol; exact ⟨a, c, hv⟩
  have HW2 := Lib.hid (below_then HW1.out hb2)
  clear hr1 hb2 t0 t1 t2 t3 t4 HW1
  go_upto_region 3 with fail
  have bT := Blk.new w2 34 #[.int .i64 E, .int .i64 Q]
  have oc3 := oc.alloc (.cells #[.int .i64 E, .int .i64 Q] 34)
  have ol3 := ol.alloc (.cells #[.int .i64 E, .int .i64 Q] 34)
  have HW3 := Lib.hid (below_al HW2.out (.cells #[.int .i64 E, .int .i64 Q] 34))
  generalize w2.alloc (.cells #[.int .i64 E, .int .i64 Q] 34) = w3 at bT oc3 ol3 HW3 ⊢
  generalize w2.heap.size = T at bT ⊢
  clear oc ol HW2
  have t0 := bT.cell 0; have t1 := bT.cell 1
  simp only [List.getElem?_toArray, List.getElem?_cons_zero, List.getElem?_cons_succ] at t0 t1
  have rc3 := Rd.of_owns oc3
  have rl3 := Rd.of_owns ol3
  go_wp2_with fail
  refine (newW HFITS.out (.slice ac C.length cc) (.slice al C.length cl) w3 rc3 (by rw [HFITS.out.n]; exact rl3) w3 (Below.refl _ _)).mono ?_; rintro e w4 ⟨B, v, rfl, hU, hb4, hB4, hv4⟩
  have hpl := parts_len HFITS.out
  have HPL := Lib.hid hpl
  clear t0 t1 hpl
  go_upto_block 0 with fail
  have HI0 := Lib.hid (Iv.new HFITS.out)
  have hU0 := Lib.hid hU
  have HRC := Lib.hid rc3
  have HWW := Lib.hid HW3.out
  have hbo := HWW.out
  have HRO3 := Lib.hid (HRO.out.below HWW.out)
  clear hU hb4 bT oc3 ol3 rl3 rc3
  go_cut [16, 17, 18, 19] from 52 to 94 (fun s16 s17 s18 s19 wx => ∃ u, Hid (UW w3 wx B v u) ∧ Hid (Iv S E Q C L u))
  case first =>
    as_aux_lemma =>
      go_wp2_with fail
      go_loopw [16] (fun i wr => ∃ k : Nat, k ≤ order.length ∧ k ≤ 20 ∧ i = .int .i64 k ∧ ∃ u, Hid (UW w3 wr B v u) ∧ Hid (Iv S E Q C L u)) (fun i _ => order.length - (intOf i).toNat)
      case atStart => exact ⟨0, Nat.zero_le _, Nat.zero_le _, rfl, _, hU0, HI0⟩
      case round =>
        clear hU0 HI0 hbo
        obtain ⟨k, hk, hkm, rfl, u, HU, HI⟩ := hrel
        have hul := HI.out.len
        by_cases hlt : k < order.length ∧ k < 20
        · obtain ⟨hlt, hlt2⟩ := hlt
          have HAW := Lib.hid (asksW HU.out (by omega))
          go_wp2_with fail
          refine HAW.out.mono ?_; rintro e w5 ⟨v1, v2, rfl, o1, o2, hU5, ht5⟩
          obtain ⟨a1, c1, rfl⟩ : ∃ a c, v1 = .slice a (toAsk u).length c := by obtain ⟨_, a, c, hv, _⟩ := Rd.of_owns o1; exact ⟨a, c, hv⟩
          obtain ⟨a2, c2, rfl⟩ : ∃ a c, v2 = .slice a (toAsk u).length c := by obtain ⟨_, a, c, hv, _⟩ := Rd.of_owns o2; exact ⟨a, c, hv⟩
          have hne : (((toAsk u).length : Int) != ((toAsk u).length : Int)) = false := by simp
          have htl : (toAsk u).length ≤ 6 := by
            have := List.length_filter_le (wants (stU u)) u.parts
            unfold toAsk
            omega
          clear HAW ht5
          by_cases hz : (toAsk u).length = 0
          · have hz2 : (((toAsk u).length : Int) == 0) = true := by simpa using hz
            have HU5 := Lib.hid hU5
            clear hU5 o1 o2
            go_wp2_with fail
            go_meet
            exact ⟨_, HU5, Lib.hid HI.out.begun⟩
          · have hz2 : (((toAsk u).length : Int) == 0) = false := by simpa using hz
            obtain ⟨bo, oo, rfl, hbo1, hco⟩ := (hU5.rd HRO3.out).at1 k hlt
            unfold IV at hco
            rw [List.getElem?_map, List.getElem?_eq_getElem hlt] at hco
            have hab := HOK.out _ (List.getElem_mem hlt)
            have HP := Lib.hid (HPK.out order[k] hab (toAsk u).length (by omega) (by omega))
            have hpb := pk_bd order[k] (toAsk u).length (by omega)
            generalize order[k] = oa at hco HP hpb
            obtain ⟨j, hj⟩ : ∃ n : Nat, pk oa (toAsk u).length = n := ⟨(pk oa (toAsk u).length).toNat, by omega⟩
            rw [hj] at HP hpb
            have hjl : j < (toAsk u).length := by omega
            obtain ⟨b1, oo1, rfl, hb1, hc1⟩ := (Rd.of_owns o1).at1 j hjl
            obtain ⟨b2, oo2, rfl, hb2, hc2⟩ := Rd.atk (l := (toAsk u).map fun p => askU u p (stU u)) Ak.cs (fun _ => rfl) (Rd.of_owns o2) (by simp) j (by simpa using hjl)
            unfold colsOf at hc1
            rw [List.getElem?_map, List.getElem?_eq_getElem hjl] at hc1
            rw [List.getElem_map] at hc2
            have hc20 := hc2 0 (by omega)
            have hkd := ask_kind u (toAsk u)[j] (stU u)
            generalize askU u (toAsk u)[j] (stU u) = q at hc20 hkd
            generalize (toAsk u)[j] = p at hc1
            obtain ⟨qk, qs, qe, qq, qm, qn, ⟨qo, qp⟩, qb⟩ := q
            simp only [Option.map_some] at hco hc1
            simp only [Ak.cs, List.getElem?_cons_zero, Nat.add_zero] at hc20
            simp only at hkd
            have i0 : (0 : Int) ≤ (j : Int) := by omega
            have i1 : (j : Int) < ((toAsk u).length : Int) := by omega
            have i2 : (0 : Int) ≤ (k : Int) := by omega
            have i3 : (k : Int) < (order.length : Int) := by omega
            have HSD := Lib.hid (saidW (show UW w3 w5.drew B v (begun u) from ⟨⟨hU5.o.h, hU5.o.own⟩, hU5.b, hU5.v, hU5.w.drew⟩) (by rw [begun_parts]; omega) p.col qk 1)
            have HI2 := Lib.hid (HI.out.begun.said p.col qk hkd)
            clear hc2 o1 o2 hU5
            go_wp2_with fail
            refine (HP.out _).mono ?_; rintro e w6 ⟨rfl, rfl⟩
            go_wp2_with fail
            go_still_tail 10, (by kernel_rfl)
            change wpList _ _ _ _ _ w5.drew
            go_wp2_with fail
            refine HSD.out.mono ?_; rintro e w7 ⟨rfl, hU7, _⟩
            have HU7 := Lib.hid hU7
            clear hU7
            go_wp2_with fail
            go_roundw
            case rel => exact ⟨k + 1, by omega, by omega, by go_num, _, HU7, HI2⟩
            case measure => simp [intOf]; omega
        · have hfin : k = order.length ∨ (k < order.length ∧ k = 20) := by omega
          rcases hfin with hk1 | ⟨hk0, hk1⟩
          all_goals
            subst hk1
            go_wp2_with fail
            go_meet
            exact ⟨_, HU, HI⟩
  case rest =>
    clear hU0 HI0 hbo
    obtain ⟨u, HU, HI⟩ := hcut
    have hul := HI.out.len
    have HAW := Lib.hid (asksW HU.out (by omega))
    go_wp2_with fail
    refine HAW.out.mono ?_; rintro e w5 ⟨v1, v2, rfl, o1, o2, hU5, ht5⟩
    obtain ⟨a1, c1, rfl⟩ : ∃ a c, v1 = .slice a (toAsk u).length c := by obtain ⟨_, a, c, hv, _⟩ := Rd.of_owns o1; exact ⟨a, c, hv⟩
    obtain ⟨a2, c2, rfl⟩ : ∃ a c, v2 = .slice a (toAsk u).length c := by obtain ⟨_, a, c, hv, _⟩ := Rd.of_owns o2; exact ⟨a, c, hv⟩
    have hne : (((toAsk u).length : Int) != ((toAsk u).length : Int)) = false := by simp
    have htl : (toAsk u).length ≤ 6 := by
      have := List.length_filter_le (wants (stU u)) u.parts
      unfold toAsk
      omega
    clear HAW ht5
    by_cases hz : (toAsk u).length = 0
    · have hz2 : (((toAsk u).length : Int) == 0) = true := by simpa using hz
      have HS := Lib.hid (stateW hU5 (by rw [begun_parts]; omega))
      rw [begun_st, st_none HI.out.f hz] at HS
      clear hU5 o1 o2
      go_wp2_with fail
      refine HS.out.mono ?_; rintro e w6 ⟨rfl, hU6, _⟩
      have HB := Lib.hid (below_then HWW.out hU6.w)
      clear hU6
      go_wp2_with fail
      go_ret
      exact ⟨rfl, HB.out⟩
    · have hz2 : (((toAsk u).length : Int) == 0) = false := by simpa using hz
      have HP := Lib.hid (HPK.out who HWHO.out (toAsk u).length (by omega) (by omega))
      have hpb := pk_bd who (toAsk u).length (by omega)
      obtain ⟨j, hj⟩ : ∃ n : Nat, pk who (toAsk u).length = n := ⟨(pk who (toAsk u).length).toNat, by omega⟩
      rw [hj] at HP hpb
      have hjl : j < (toAsk u).length := by omega
      have hU5d : UW w3 w5.drew B v (begun u) := ⟨⟨hU5.o.h, hU5.o.own⟩, hU5.b, hU5.v, hU5.w.drew⟩
      obtain ⟨g1, cc1, hv1, hg1, hg1'⟩ := World.ownsRow.form o1 (by omega)
      cases hv1
      obtain ⟨g2, cc2, hv2, hg2, hg2'⟩ := World.ownsRow.form o2 (by omega)
      cases hv2
      obtain ⟨z1, z2⟩ := asked_cells o1 o2 rfl j hjl
      have z20 := z2 0 (by omega)
      have hkd := ask_kind u (toAsk u)[j] (stU u)
      have hmem : (toAsk u)[j] ∈ toAsk (begun u) := List.getElem_mem hjl
      have hps : (2 : Int) + ps ≠ 1 := by omega
      have HFAIL := Lib.hid (said_fails HI.out.begun HFITS.out.rise hmem (2 + ps) hps)
      have hkk : (askU (begun u) (toAsk u)[j] (stU (begun u))).kind = (askU u (toAsk u)[j] (stU u)).kind := rfl
      rw [hkk] at HFAIL
      have HCEL : Hid (∀ W : World, SlRd.Touch (US B v) w5.drew W → W.cell? ⟨g1, j, none⟩ = some (.int .i64 (toAsk u)[j].col) ∧ W.cell? ⟨g2, j * 9, none⟩ = some (.int .i64 (askU u (toAsk u)[j] (stU u)).kind)) := Lib.hid (by
        intro W ht
        have q1 := hU5d.keep ht (show w5.drew.ownsRow _ 3 1 _ _ _ from o1) (by decide) (by decide)
        have q2 := hU5d.keep ht (show w5.drew.ownsRow _ 43 9 _ _ _ from o2) (by decide) (by decide)
        obtain ⟨y1, y2⟩ := asked_cells q1 q2 rfl j hjl
        exact ⟨y1, y2 0 (by omega)⟩)
      have HSD := Lib.hid (fun c k s => saidW hU5d (by rw [begun_parts]; omega) c k s)
      have HBG : Hid (∀ c k s, (saidU (begun u) c k s).began = true ∧ (saidU (begun u) c k s).parts.length = C.length) := Lib.hid fun c k s => ⟨by rw [said_began]; exact begun_began (by omega), by rw [map_len, begun_parts]; exact hul⟩
      generalize (askU u (toAsk u)[j] (stU u)) = q at z20 hkd HFAIL HCEL
      generalize (toAsk u)[j] = p at z1 HFAIL HCEL
      obtain ⟨qk, qs, qe, qq, qm, qn, ⟨qo, qp⟩, qb⟩ := q
      simp only [Ak.cs, List.getElem?_cons_zero, Nat.add_zero] at z20
      simp only at hkd HFAIL HCEL
      have i0 : (0 : Int) ≤ (j : Int) := by omega
      have i1 : (j : Int) < ((toAsk u).length : Int) := by omega
      have wq : IntKind.i64.wrap (2 + ps) = 2 + ps := IntWalk.i64_in _ (by omega)
      clear z2 o1 o2 hU5 hU5d hmem
      go_wp2_with fail
      refine (HP.out _).mono ?_; rintro e w6 ⟨rfl, rfl⟩
      go_wp2_with fail
      go_region_held3 (fun W => W.cell? ⟨g1, j, none⟩ = some (.int .i64 p.col) ∧ W.cell? ⟨g2, j * 9, none⟩ = some (.int .i64 qk))
        (first
          | exact HCEL.out _ (SlRd.Touch.refl _ _)
          | exact HCEL.out _ htS)
        (first
          | (go_at_call_of 33 (status); refine (HST.out _).mono ?_; rintro e w' ⟨rfl, rfl⟩)
          | (go_at_call 34; refine (HSD.out p.col qk (2 + ps)).mono ?_; rintro e w7 ⟨rfl, hU7, htS⟩))
      go_split_ands
      have hf3 := HFAIL.out
      obtain ⟨hbg3, hpl3⟩ := HBG.out p.col qk (2 + ps)
      generalize saidU (begun u) p.col qk (2 + ps) = u3 at hU7 hf3 hbg3 hpl3
      obtain ⟨hst3, hta3⟩ := ask_failed hf3
      have HU7 := Lib.hid hU7
      have HSS : Hid (∀ W c k s, UW w3 W B v u3 → Calls Try.prog 34 #[.pointer (some ⟨B, 0, none⟩), .int .i64 c, .int .i64 k, .int .i64 s] W fun e w' => e = .returned (.tuple #[]) ∧ UW w3 w' B v u3 ∧ SlRd.Touch (US B v) W w') := Lib.hid fun W c k s h => by
        have := saidW h (by omega) c k s
        rwa [said_stays hf3] at this
      have HAF := Lib.hid (fun W (h : UW w3 W B v u3) => asksW h (by omega))
      have HSF := Lib.hid (fun W (h : UW w3 W B v (begun u3)) => stateW h (by rw [begun_parts]; omega))
      have HBF := Lib.hid (fun W (h : UW w3 W B v (begun u3)) => beganW h)
      have hbb : (begun u3).began = true := by unfold begun; rw [hbg3]; rfl
      rw [hta3] at HAF
      rw [begun_st, hst3] at HSF
      rw [hbb] at HBF
      clear hU7 htS HSD HFAIL HBG HCEL hf3 hbg3 hst3 hta3 hbb HU HI
      go_wp2_with fail
      go_loopw [23] (fun i wr => ∃ k : Nat, k ≤ C.length ∧ i = .int .i64 k ∧ Hid (UW w3 wr B v u3)) (fun i _ => C.length - (intOf i).toNat)
      case atStart => exact ⟨0, Nat.zero_le _, rfl, HU7⟩
      case round =>
        clear HU7
        obtain ⟨k, hk, rfl, HU8⟩ := hrel
        by_cases hlt : k < C.length
        · obtain ⟨bc, oc, rfl, hbc, hcc⟩ := (HU8.out.rd HRC.out).at1 k hlt
          rw [List.getElem?_map, List.getElem?_eq_getElem hlt] at hcc
          have HCC := Lib.hid (fun W (h : UW w3 W B v u3) => (h.rd HRC.out).at1 k hlt)
          generalize hck : C[k] = c at hcc
          simp only [Option.map_some] at hcc
          have HCK := Lib.hid hck
          clear hck
          have i2 : (0 : Int) ≤ (k : Int) := by omega
          have i3 : (k : Int) < (C.length : Int) := by omega
          go_wp2_with fail
          refine (HSS.out _ c 4 1 HU8.out).mono ?_; rintro e w8 ⟨rfl, hU8, _⟩
          obtain ⟨bc', oc', hvv, hbc', hcc'⟩ := HCC.out _ hU8
          cases hvv
          rw [List.getElem?_map, List.getElem?_eq_getElem hlt, HCK.out] at hcc'
          simp only [Option.map_some] at hcc'
          have HU9 := Lib.hid hU8
          clear hU8 hcc hbc hbc'
          go_wp2_with fail
          refine (HSS.out _ c 5 1 HU9.out).mono ?_; rintro e w9 ⟨rfl, hU9, _⟩
          have HU10 := Lib.hid hU9
          clear hU9 hcc'
          go_wp2_with fail
          go_roundw
          case rel => exact ⟨k + 1, by omega, by go_num, HU10⟩
          case measure => simp [intOf]; omega
        · obtain rfl : k = C.length := by omega
          go_wp2_with fail
          refine (HAF.out _ HU8.out).mono ?_; rintro e w8 ⟨va, vb, rfl, oa, ob, hU9, _⟩
          obtain ⟨aa, ca, rfl⟩ : ∃ a c, va = .slice a 0 c := by obtain ⟨_, a, c, hv, _⟩ := Rd.of_owns oa; exact ⟨a, c, hv⟩
          obtain ⟨ab, cb, rfl⟩ : ∃ a c, vb = .slice a 0 c := by obtain ⟨_, a, c, hv, _⟩ := Rd.of_owns ob; exact ⟨a, c, hv⟩
          have HU9 := Lib.hid hU9
          clear hU9 oa ob
          go_wp2_with fail
          refine (HSF.out _ HU9.out).mono ?_; rintro e w9 ⟨rfl, hU10, _⟩
          have HU10 := Lib.hid hU10
          clear hU10
          go_wp2_with fail
          refine (HBF.out _ HU10.out).mono ?_; rintro e w10 ⟨rfl, rfl⟩
          have HBE := Lib.hid (below_then HWW.out HU10.out.w)
          go_wp2_with fail
          go_ret
          exact ⟨rfl, HBE.out⟩
end Go.Proofs.Ytaeeflfhjmjpjaa
