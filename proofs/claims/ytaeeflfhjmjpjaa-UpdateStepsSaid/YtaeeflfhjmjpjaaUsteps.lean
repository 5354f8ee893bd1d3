/- The walk of UpdateSteps. (Its beginning is printed by u_template.py.) -/
import Derived.Test.YtaeeflfhjmjpjaaUstp
import Derived.Test.YtaeeflfhjmjpjaaUrule
import Derived.Test.YtaeeflfhjmjpjaaUreg
import Derived.Test.YtaeeflfhjmjpjaaUtail
import Derived.Test.YtaeeflfhjmjpjaaUargs
import Derived.StillTailTactics
namespace Go.Proofs.Ytaeeflfhjmjpjaa
open Go.RowKit SlRd
set_option linter.unusedVariables false

set_option maxRecDepth 100000 in
set_option maxHeartbeats 6400000 in
theorem updateSteps_walk (x : Rw) (vt : Value) (order : List Int) (vo : Value) (w : World) (hr : Rd w 1 vt x.texts.length (x.texts.map Value.string)) (hx : x.ok) (hrl : x.texts.length ≤ 140737488351232)
    (ho : Rd w 1 vo order.length (IV order)) (hok : ∀ a ∈ order, -9223372036854775808 ≤ a ∧ a ≤ 9223372036854775807) (hol : order.length ≤ 140737488351232) :
    Calls Try.prog 10 #[.agg #[.int .i64 x.stripe, .int .i64 x.mask, .int .i64 x.epoch, .int .i64 x.seq, vt], vo] w fun e w' => e = .returned (.bool true) ∧ Below w.heap.size w w' := by
  obtain ⟨ao, co, rfl⟩ : ∃ a c, vo = .slice a order.length c := by obtain ⟨_, a, c, rfl, _⟩ := ho; exact ⟨_, _, rfl⟩
  have HOK := Lib.hid hok
  have HRO := Lib.hid ho
  have HPK : Hid (∀ (a : Int), (-9223372036854775808 ≤ a ∧ a ≤ 9223372036854775807) → ∀ n : Nat, 0 < n → n ≤ 100 → ∀ W, Calls Try.prog 33 #[.int .i64 a, .int .i64 n] W fun e w' => e = .returned (.int .i64 (pk a n)) ∧ W = w') := Lib.hid fun a ha n h1 h2 W => pick33_any a n ha (by omega) (by omega) W
  clear hok ho
  have hfits := fits_of x
  have HFIT := Lib.hid (fun W h => fit_any x hx vt W h hrl)
  obtain ⟨xs, xm, xe, xq, xt⟩ := x
  simp only at HFIT hr hrl ⊢
  generalize fS ⟨xs, xm, xe, xq, xt⟩ = S at HFIT hfits
  generalize fE ⟨xs, xm, xe, xq, xt⟩ = E at HFIT hfits
  generalize fQ ⟨xs, xm, xe, xq, xt⟩ = Q at HFIT hfits
  generalize fC ⟨xs, xm, xe, xq, xt⟩ = C at HFIT hfits
  generalize fB ⟨xs, xm, xe, xq, xt⟩ = L at HFIT hfits
  have hn6 := hfits.len
  have hn0 := hfits.n0
  have HFITS := Lib.hid hfits
  clear hfits hx
  go_enter Try.func10, Try.ntmps10
  go_upto_region 1 with fail
  have bX := Blk.new w 53 #[.int .i64 xs, .int .i64 xm, .int .i64 xe, .int .i64 xq, vt]
  have hbX := (Below.refl w.heap.size w).alloc (Nat.le_refl _) (.cells #[.int .i64 xs, .int .i64 xm, .int .i64 xe, .int .i64 xq, vt] 53)
  have hrX := hr.below hbX
  generalize w.alloc (.cells #[.int .i64 xs, .int .i64 xm, .int .i64 xe, .int .i64 xq, vt] 53) = wX at bX hbX hrX ⊢
  generalize w.heap.size = X at bX ⊢
  have HWX := Lib.hid hbX
  clear hr hbX
  go_wp2_with fail
  refine (awake16_any _).mono ?_; rintro e w1 ⟨rfl, hb1⟩
  have bX1 : Blk w1 X 53 _ := (hb1.block X bX.lt).trans bX
  have hr1 := hrX.below hb1
  have HW1 := Lib.hid (below_then HWX.out hb1)
  have t0 := bX1.cell 0; have t1 := bX1.cell 1; have t2 := bX1.cell 2; have t3 := bX1.cell 3; have t4 := bX1.cell 4
  simp only [List.getElem?_toArray, List.getElem?_cons_zero, List.getElem?_cons_succ] at t0 t1 t2 t3 t4
  have hs01 := HW1.out.size
  clear bX hb1 hrX bX1 HWX
  go_wp2_with fail
  refine (HFIT.out _ hr1).mono ?_; rintro e w2 ⟨vc, vl, rfl, oc, ol, hb2⟩
  obtain ⟨ac, cc, rfl⟩ : ∃ a c, vc = .slice a C.length c := by obtain ⟨_, a, c, hv, _⟩ := Rd.of_owns oc; exact ⟨a, c, hv⟩
  obtain ⟨al, cl, rfl⟩ : ∃ a c, vl = .slice a C.length c := by obtain ⟨_, a, c, hv, _⟩ := Rd.of_owns ol; exact ⟨a, c, hv⟩
  have HW2 := Lib.hid (below_then HW1.out hb2)
  clear hr1 hb2 t0 t1 t2 t3 t4 HW1
  go_upto_region 3 with fail
  have bT := Blk.new w2 34 #[.int .i64 E, .int .i64 Q]
  have oc3 := oc.alloc (.cells #[.int .i64 E, .int .i64 Q] 34)
  have ol3 := ol.alloc (.cells #[.int .i64 E, .int .i64 Q] 34)
  have HW3 := Lib.hid (below_al HW2.out (.cells #[.int .i64 E, .int .i64 Q] 34))
  generalize w2.alloc (.cells #[.int .i64 E, .int .i64 Q] 34) = w3 at bT oc3 ol3 HW3 ⊢
  generalize w2.heap.size = T at bT ⊢
  clear oc ol HW2
  have t0 := bT.cell 0; have t1 := bT.cell 1
  simp only [List.getElem?_toArray, List.getElem?_cons_zero, List.getElem?_cons_succ] at t0 t1
  have rc3 := Rd.of_owns oc3
  have rl3 := Rd.of_owns ol3
  go_wp2_with fail
  refine (newW HFITS.out (.slice ac C.length cc) (.slice al C.length cl) w3 rc3 (by rw [HFITS.out.n]; exact rl3) w3 (Below.refl _ _)).mono ?_; rintro e w4 ⟨B, v, rfl, hU, hb4, hB4, hv4⟩
  have hpl := parts_len HFITS.out
  have HPL := Lib.hid hpl
  clear t0 t1 hpl
  go_upto_block 0 with fail
  have hI0 := Iv.new HFITS.out
  obtain ⟨hF0, hM0⟩ := Fl.start HFITS.out
  have HRC := Lib.hid rc3
  have hn0' := hn0
  have HWW := Lib.hid HW3.out
  have HRO3 := Lib.hid (HRO.out.below HWW.out)
  have HBT := Lib.hid bT
  have hb45 : Below w4.heap.size w4 ((w4.alloc (.cells #[.bool false, .bool false, .bool false, .bool false, .bool false, .bool false] 60)).alloc (.cells #[.bool false, .bool false, .bool false, .bool false, .bool false, .bool false] 60)) := ((Below.refl _ _).alloc (Nat.le_refl _) _).alloc (by simp) _
  have bO : Blk ((w4.alloc (.cells #[.bool false, .bool false, .bool false, .bool false, .bool false, .bool false] 60)).alloc (.cells #[.bool false, .bool false, .bool false, .bool false, .bool false, .bool false] 60)) w4.heap.size 60 ((List.replicate 6 false).map Value.bool).toArray := (Below.heap_alloc _ _ _ (by simp)).trans (Blk.new w4 60 _)
  have bD : Blk ((w4.alloc (.cells #[.bool false, .bool false, .bool false, .bool false, .bool false, .bool false] 60)).alloc (.cells #[.bool false, .bool false, .bool false, .bool false, .bool false, .bool false] 60)) (w4.heap.size + 1) 60 ((List.replicate 6 false).map Value.bool).toArray := by
    have := Blk.new (w4.alloc (.cells #[.bool false, .bool false, .bool false, .bool false, .bool false, .bool false] 60)) 60 #[.bool false, .bool false, .bool false, .bool false, .bool false, .bool false]
    rw [show (w4.alloc (.cells #[.bool false, .bool false, .bool false, .bool false, .bool false, .bool false] 60)).heap.size = w4.heap.size + 1 from by simp] at this
    exact this
  have hU5 := hU.below hb45
  have hOD : w4.heap.size ≠ w4.heap.size + 1 := by omega
  have hwO : w3.heap.size ≤ w4.heap.size := hb4.size
  generalize (w4.alloc (.cells #[.bool false, .bool false, .bool false, .bool false, .bool false, .bool false] 60)).alloc (.cells #[.bool false, .bool false, .bool false, .bool false, .bool false, .bool false] 60) = wS at bO bD hU5 ⊢
  have hwD : w3.heap.size ≤ w4.heap.size + 1 := by omega
  generalize w4.heap.size + 1 = D at bD hOD hwD ⊢
  generalize w4.heap.size = O at bO hOD hwO ⊢
  have HS0 := Lib.hid (show StR w3 S E Q C L B v O D (newU S E Q C L) (List.replicate 6 false) (List.replicate 6 false) wS from ⟨hU5, hI0, hM0, hF0, bO, bD⟩)
  clear hI0 hF0 hM0 hU5 bO bD hb45 hU hb4 bT oc3 ol3 rl3 rc3
  go_wp2_with fail
  go_loopw [14] (fun i wr => ∃ k : Nat, k ≤ order.length ∧ k ≤ 60 ∧ i = .int .i64 k ∧ ∃ u ob db, Hid (StR w3 S E Q C L B v O D u ob db wr)) (fun i _ => order.length - (intOf i).toNat)
  case atStart => exact ⟨0, Nat.zero_le _, Nat.zero_le _, rfl, _, _, _, HS0⟩
  case round =>
    clear HS0
    obtain ⟨k, hk, hkm, rfl, u, ob, db, HR⟩ := hrel
    have hul := HR.out.i.len
    by_cases hlt : k < order.length ∧ k < 60
    · obtain ⟨hlt, hlt2⟩ := hlt
      have HAW := Lib.hid (asksW HR.out.w (by omega))
      go_wp2_with fail
      refine HAW.out.mono ?_; rintro e w5 ⟨v1, v2, rfl, o1, o2, hU5, ht5⟩
      have hR5 : StR w3 S E Q C L B v O D (begun u) ob db w5 := HR.out.touched ht5 hU5 HR.out.i.begun HR.out.m (begun_fl HR.out.f)
      clear HAW ht5 hU5
      have HR5 := Lib.hid hR5
      obtain ⟨a1, c1, rfl⟩ : ∃ a c, v1 = .slice a (toAsk u).length c := by obtain ⟨_, a, c, hv, _⟩ := Rd.of_owns o1; exact ⟨a, c, hv⟩
      obtain ⟨a2, c2, rfl⟩ : ∃ a c, v2 = .slice a (toAsk u).length c := by obtain ⟨_, a, c, hv, _⟩ := Rd.of_owns o2; exact ⟨a, c, hv⟩
      have HO1 := Lib.hid o1
      have HO2 := Lib.hid o2
      clear o1 o2 hR5
      have HULP := Lib.hid hul
      go_wp2_with fail
      go_loopw [17, 18, 19] (fun a d i wr => ∃ j : Nat, j ≤ C.length ∧ i = .int .i64 j ∧ a = .bool (allO (u.parts.take j)) ∧ d = .bool (allD (u.parts.take j)) ∧ w5 = wr) (fun _ _ i _ => C.length - (intOf i).toNat)
      case atStart => exact ⟨0, Nat.zero_le _, rfl, rfl, rfl, rfl⟩
      case round =>
        obtain ⟨j, hj, rfl, rfl, rfl, rfl⟩ := hrel
        by_cases hjl : j < C.length
        · obtain ⟨ci, hci, hcc, hpc, z1, z2⟩ := HR5.out.flags HFITS.out j (by rw [begun_parts, HULP.out]; exact hjl) hjl
          obtain ⟨bc, oc, rfl, hbc, hcell⟩ := (HR5.out.w.rd HRC.out).at1 j hjl
          rw [List.getElem?_map, List.getElem?_eq_getElem hjl, hcc] at hcell
          simp only [Option.map_some] at hcell
          have hA := Lib.hid (allO_succ u.parts j (by rw [HULP.out]; exact hjl))
          have hD := Lib.hid (allD_succ u.parts j (by rw [HULP.out]; exact hjl))
          have y1 : w5.cell? ⟨O, ci, none⟩ = some (.bool (u.parts[j]'(by rw [HULP.out]; exact hjl)).op) := z1
          have y2 : w5.cell? ⟨D, ci, none⟩ = some (.bool (u.parts[j]'(by rw [HULP.out]; exact hjl)).dn) := z2
          clear z1 z2
          generalize (u.parts[j]'(by rw [HULP.out]; exact hjl)).op = po at y1 hA
          generalize (u.parts[j]'(by rw [HULP.out]; exact hjl)).dn = pd at y2 hD
          have i0 : (0 : Int) ≤ (ci : Int) := by omega
          have i1 : (ci : Int) < 6 := by omega
          have i2 : (0 : Int) ≤ (j : Int) := by omega
          have i3 : (j : Int) < (C.length : Int) := by omega
          clear hcc hpc
          generalize allO (u.parts.take j) = qa at hA ⊢
          generalize allD (u.parts.take j) = qd at hD ⊢
          cases qa <;> cases qd
          all_goals
            go_wp2_with fail
            go_roundw
            case rel => exact ⟨j + 1, by omega, by go_num, by rw [hA.out]; rfl, by rw [hD.out]; rfl, by first | rfl | trivial⟩
            case measure => simp [intOf]; omega
        · obtain rfl : j = C.length := by omega
          rw [List.take_of_length_le (by rw [HULP.out]; exact Nat.le_refl _)]
          have hf := HR.out.i.f
          have hmono := HR.out.m
          have hnz := toAsk_zero hf hmono (by omega)
          have hsv := st_val hf
          have hdo := mono_do hmono (by omega)
          have hne : (((toAsk u).length : Int) != ((toAsk u).length : Int)) = false := by simp
          have htl : (toAsk u).length ≤ 6 := by
            have := List.length_filter_le (wants (stU u)) u.parts
            unfold toAsk
            omega
          have HST := Lib.hid (fun W (h : UW w3 W B v (begun u)) => stateW h (by rw [begun_parts]; omega))
          cases hd : allD u.parts
          · have hn0 : 0 < (toAsk u).length := by
              rcases Nat.eq_zero_or_pos (toAsk u).length with h | h
              · rw [hnz.1 h] at hd; cases hd
              · exact h
            have hz : (((toAsk u).length : Int) == 0) = false := by rw [beq_eq_false_iff_ne]; omega
            have hm1 := maskOf_pos hn0'
            have hm2 := maskOf_lt C HFITS.out.bd
            obtain ⟨g1, cc1, hv1, _, _⟩ := World.ownsRow.form HO1.out hn0
            cases hv1
            obtain ⟨g2, cc2, hv2, _, _⟩ := World.ownsRow.form HO2.out hn0
            cases hv2
            have HCEL := Lib.hid (fun (W : World) (hb : Below w5.heap.size w5 W) (j : Nat) (hj : j < (toAsk u).length) => asked_cells (owns_below HO1.out hb) (owns_below HO2.out hb) rfl j hj)
            have HMEM : Hid (∀ (j : Nat) (hj : j < (toAsk u).length), (toAsk u)[j] ∈ u.parts ∧ wants (stU u) (toAsk u)[j] = true) := Lib.hid fun j hj => toAsk_in (List.getElem_mem hj)
            have HFP := Lib.hid (fun (W : World) (hb : Below w5.heap.size w5 W) (p : Pt) (hp : p ∈ u.parts) => (HR5.out.below hb).flagp HFITS.out (p := p) hp)
            have HTT : Hid (∀ W : World, Below w5.heap.size w5 W → W.cell? ⟨T, 0, none⟩ = some (.int .i64 E) ∧ W.cell? ⟨T, 1, none⟩ = some (.int .i64 Q)) := Lib.hid fun W hb => by
              have hbw := (HR5.out.w.below hb).w
              have bTW : Blk W T 34 _ := (hbw.block T HBT.out.lt).trans HBT.out
              exact ⟨bTW.cell 0, bTW.cell 1⟩
            have HRT4 := Lib.hid (fun (b : ByteArray) (hb : b.size = 16) W => right4 S E Q (maskOf C : Nat) b HFITS.out.s0 HFITS.out.s1 HFITS.out.e0 HFITS.out.e1 HFITS.out.q0 HFITS.out.q1 (by omega) (by omega) hb W)
            have HRT5 := Lib.hid (fun W => right5 S E Q HFITS.out.s0 HFITS.out.s1 HFITS.out.e0 HFITS.out.e1 HFITS.out.q0 HFITS.out.q1 W)
            cases ha : allO u.parts
            · have hst : stU u = 0 := by rw [hsv, ha]; rfl
              rw [begun_st, hst] at HST
              rw [hst] at HCEL HMEM
              have HAK := Lib.hid (fun p => askU_0 HR.out.i p)
              clear hnz hsv hdo
              go_upto_region 19 with fail
              go_wp2_with fail
              refine (HST.out _ HR5.out.w).mono ?_; rintro e w6 ⟨rfl, hU6, hb6⟩
              have HU6 := Lib.hid hU6
              clear hU6
              go_wp2_with fail
              refine (HST.out _ HU6.out).mono ?_; rintro e w7 ⟨rfl, hU7, hb7⟩
              have HU7 := Lib.hid hU7
              have HB7 := Lib.hid (below_then hb6 hb7)
              clear hU7 hb6 hb7 HU6
              go_wp2_with fail
              go_loopw [20] (fun i wr => ∃ j : Nat, j ≤ (toAsk u).length ∧ i = .int .i64 j ∧ Hid (Below w7.heap.size w7 wr)) (fun i _ => (toAsk u).length - (intOf i).toNat)
              case atStart => exact ⟨0, Nat.zero_le _, rfl, Lib.hid (Below.refl _ _)⟩
              case round =>
                obtain ⟨j, hj, rfl, HBR⟩ := hrel
                have hb5r := below_then HB7.out HBR.out
                by_cases hjl : j < (toAsk u).length
                · obtain ⟨hpm, hpw⟩ := HMEM.out j hjl
                  obtain ⟨ci, hci, hpc, hsz, _, _⟩ := HFP.out _ hb5r _ hpm
                  obtain ⟨N, f, n0, hf0, hf1, hf2⟩ := cls_of wr
                  have hNe : Nonempty N := ⟨n0⟩
                  have HZN : ∀ n, (f n).cell? ⟨g1, j, none⟩ = some (.int .i64 ci) ∧ ∀ i, i < 9 → (f n).cell? ⟨g2, j * 9 + i, none⟩ = (⟨4, S, E, Q, (maskOf C : Nat), 0, ⟨0, 0⟩, (toAsk u)[j].block⟩ : Ak).cs[i]? := fun n => by
                    obtain ⟨z1, z2⟩ := HCEL.out _ (below_then hb5r (hf1 n)) j hjl
                    rw [HAK.out] at z2
                    rw [hpc] at z1
                    exact ⟨z1, z2⟩
                  have HYN : ∀ n, (f n).cell? ⟨O, ci, none⟩ = some (.bool (toAsk u)[j].op) := fun n => by
                    obtain ⟨ci', _, h2, _, h3, h4⟩ := HFP.out _ (below_then hb5r (hf1 n)) _ hpm
                    obtain rfl : ci' = ci := by rw [hpc] at h2; omega
                    exact h3
                  have HXN : ∀ n, (f n).cell? ⟨T, 0, none⟩ = some (.int .i64 E) ∧ (f n).cell? ⟨T, 1, none⟩ = some (.int .i64 Q) := fun n => HTT.out _ (below_then hb5r (hf1 n))
                  clear hpc hpm
                  generalize (toAsk u)[j] = p at HZN hpw hsz HYN
                  obtain ⟨pc, pb, po, pd⟩ := p
                  unfold wants at hpw
                  have hpo : po = false := by simpa using hpw
                  subst hpo
                  clear hpw
                  simp only at HYN hsz
                  have i1 : (ci : Int) < 6 := by omega
                  have i2 : (0 : Int) ≤ (j : Int) := by omega
                  have i3 : (j : Int) < ((toAsk u).length : Int) := by omega
                  have HF1 := Lib.hid hf1
                  have HF2 := Lib.hid hf2
                  have HF0 := Lib.hid hf0
                  have R4 := Lib.hid (HRT4.out pb hsz)
                  clear hf0 hf1 hf2 hci hsz
                  go_upto_region 25 with fail
                  refine region25_4 (by kernel_rfl) hNe HF0 HF2 HZN HYN HXN i1 i3 R4 ?_
                  clear HZN HYN HXN
                  intro nq
                  intros
                  go_wp2_with fail
                  go_roundw
                  case rel => exact ⟨j + 1, by omega, by go_num, Lib.hid (below_then HBR.out (HF1.out nq))⟩
                  case measure => simp [intOf]; omega
                · obtain rfl : j = (toAsk u).length := by omega
                  obtain ⟨bo, oo, rfl, hbo1, hco⟩ := ((HR5.out.below hb5r).w.rd HRO3.out).at1 k hlt
                  unfold IV at hco
                  rw [List.getElem?_map, List.getElem?_eq_getElem hlt] at hco
                  simp only [Option.map_some] at hco
                  have hab := HOK.out _ (List.getElem_mem hlt)
                  have HP := Lib.hid (HPK.out order[k] hab (toAsk u).length (by omega) (by omega))
                  have hpb := pk_bd order[k] (toAsk u).length (by omega)
                  have HCO : Hid (∀ w, Below w3.heap.size w3 w → w.cell? ⟨bo, oo + k, none⟩ = some (.int .i64 order[k])) := Lib.hid fun w hb => by
                    obtain ⟨bo', oo', he, _, hco'⟩ := (HRO3.out.below hb).at1 k hlt
                    cases he
                    unfold IV at hco'
                    rw [List.getElem?_map, List.getElem?_eq_getElem hlt] at hco'
                    exact hco'
                  generalize order[k] = oa at hco HP hpb HCO
                  obtain ⟨jj, hjj⟩ : ∃ n : Nat, pk oa (toAsk u).length = n := ⟨(pk oa (toAsk u).length).toNat, by omega⟩
                  rw [hjj] at HP hpb
                  have hjl : jj < (toAsk u).length := by omega
                  obtain ⟨ci, I0, I1, hci, H0, hd0, hd1, hz0, hz1, hs0, hs1, hbw, htl⟩ := tail_law HFITS.out HR5.out HR.out.i (by omega) HO1.out HO2.out hwO hwD hOD 4 O (.inl ⟨rfl, hst, rfl⟩) jj hjl hb5r
                  obtain ⟨z1, z2⟩ := hz0 _ H0
                  have HS0 := Lib.hid hs0
                  have H0h := Lib.hid (hd0 _ H0)
                  have HD1 := Lib.hid hd1
                  have HZ1 := Lib.hid hz1
                  have HS1 := Lib.hid hs1
                  have HC1 := Lib.hid (fun w h => HCO.out w (hbw w h))
                  have HTL := Lib.hid htl
                  clear hz0 H0 hd0 hs0 hd1 hz1 hs1 hbw htl
                  have i1 : (ci : Int) < 6 := by omega
                  have i3 : (jj : Int) < ((toAsk u).length : Int) := by omega
                  have i4 : (0 : Int) ≤ (k : Int) := by omega
                  have i5 : (k : Int) < (order.length : Int) := by omega
                  go_upto_region 27 with fail
                  go_wp2_with fail
                  refine (HP.out _).mono ?_; rintro e w8 ⟨rfl, rfl⟩
                  go_wp2_with fail
                  refine tail28_4 ?_ (by assumption) ?_ H0h HD1 z1 z2 HZ1 HS0 HS1 HC1 i1 i3 i5 ?_
                  · kernel_rfl
                  · kernel_rfl
                  clear z1 z2 hco
                  intro w9
                  intros
                  rename_i H1
                  obtain ⟨u', ob', db', HSR⟩ := HTL.out _ H1
                  go_wp2_with fail
                  go_roundw
                  case rel => exact ⟨k + 1, by omega, by omega, by go_num, u', ob', db', Lib.hid HSR⟩
                  case measure => simp [intOf]; omega
            · have hst : stU u = 1 := by rw [hsv, ha, hd]; rfl
              rw [begun_st, hst] at HST
              rw [hst] at HCEL HMEM
              have HAK := Lib.hid (fun p => askU_1 HR.out.i p)
              clear hnz hsv hdo
              go_upto_region 19 with fail
              go_wp2_with fail
              refine (HST.out _ HR5.out.w).mono ?_; rintro e w6 ⟨rfl, hU6, hb6⟩
              have HU6 := Lib.hid hU6
              clear hU6
              go_wp2_with fail
              refine (HST.out _ HU6.out).mono ?_; rintro e w7 ⟨rfl, hU7, hb7⟩
              have HU7 := Lib.hid hU7
              have HB7 := Lib.hid (below_then hb6 hb7)
              clear hU7 hb6 hb7 HU6
              go_wp2_with fail
              go_loopw [20] (fun i wr => ∃ j : Nat, j ≤ (toAsk u).length ∧ i = .int .i64 j ∧ Hid (Below w7.heap.size w7 wr)) (fun i _ => (toAsk u).length - (intOf i).toNat)
              case atStart => exact ⟨0, Nat.zero_le _, rfl, Lib.hid (Below.refl _ _)⟩
              case round =>
                obtain ⟨j, hj, rfl, HBR⟩ := hrel
                have hb5r := below_then HB7.out HBR.out
                by_cases hjl : j < (toAsk u).length
                · obtain ⟨hpm, hpw⟩ := HMEM.out j hjl
                  obtain ⟨ci, hci, hpc, hsz, _, _⟩ := HFP.out _ hb5r _ hpm
                  obtain ⟨N, f, n0, hf0, hf1, hf2⟩ := cls_of wr
                  have hNe : Nonempty N := ⟨n0⟩
                  have HZN : ∀ n, (f n).cell? ⟨g1, j, none⟩ = some (.int .i64 ci) ∧ ∀ i, i < 9 → (f n).cell? ⟨g2, j * 9 + i, none⟩ = (⟨5, S, E, Q, 0, 0, ⟨0, 0⟩, ⟨#[]⟩⟩ : Ak).cs[i]? := fun n => by
                    obtain ⟨z1, z2⟩ := HCEL.out _ (below_then hb5r (hf1 n)) j hjl
                    rw [HAK.out] at z2
                    rw [hpc] at z1
                    exact ⟨z1, z2⟩
                  have HYN : ∀ n, (f n).cell? ⟨D, ci, none⟩ = some (.bool (toAsk u)[j].dn) := fun n => by
                    obtain ⟨ci', _, h2, _, h3, h4⟩ := HFP.out _ (below_then hb5r (hf1 n)) _ hpm
                    obtain rfl : ci' = ci := by rw [hpc] at h2; omega
                    exact h4
                  have HXN : ∀ n, (f n).cell? ⟨T, 0, none⟩ = some (.int .i64 E) ∧ (f n).cell? ⟨T, 1, none⟩ = some (.int .i64 Q) := fun n => HTT.out _ (below_then hb5r (hf1 n))
                  clear hpc hpm
                  generalize (toAsk u)[j] = p at HZN hpw hsz HYN
                  obtain ⟨pc, pb, po, pd⟩ := p
                  unfold wants at hpw
                  have hpo : pd = false := by simpa using hpw
                  subst hpo
                  clear hpw
                  simp only at HYN hsz
                  have i1 : (ci : Int) < 6 := by omega
                  have i2 : (0 : Int) ≤ (j : Int) := by omega
                  have i3 : (j : Int) < ((toAsk u).length : Int) := by omega
                  have HF1 := Lib.hid hf1
                  have HF2 := Lib.hid hf2
                  have HF0 := Lib.hid hf0
                  have R4 := HRT5
                  clear hf0 hf1 hf2 hci hsz
                  go_upto_region 25 with fail
                  refine region25_5 (m := 0) (pb := ⟨#[]⟩) (by kernel_rfl) hNe HF0 HF2 HZN HYN HXN i1 i3 R4 ?_
                  clear HZN HYN HXN
                  intro nq
                  intros
                  go_wp2_with fail
                  go_roundw
                  case rel => exact ⟨j + 1, by omega, by go_num, Lib.hid (below_then HBR.out (HF1.out nq))⟩
                  case measure => simp [intOf]; omega
                · obtain rfl : j = (toAsk u).length := by omega
                  obtain ⟨bo, oo, rfl, hbo1, hco⟩ := ((HR5.out.below hb5r).w.rd HRO3.out).at1 k hlt
                  unfold IV at hco
                  rw [List.getElem?_map, List.getElem?_eq_getElem hlt] at hco
                  simp only [Option.map_some] at hco
                  have hab := HOK.out _ (List.getElem_mem hlt)
                  have HP := Lib.hid (HPK.out order[k] hab (toAsk u).length (by omega) (by omega))
                  have hpb := pk_bd order[k] (toAsk u).length (by omega)
                  have HCO : Hid (∀ w, Below w3.heap.size w3 w → w.cell? ⟨bo, oo + k, none⟩ = some (.int .i64 order[k])) := Lib.hid fun w hb => by
                    obtain ⟨bo', oo', he, _, hco'⟩ := (HRO3.out.below hb).at1 k hlt
                    cases he
                    unfold IV at hco'
                    rw [List.getElem?_map, List.getElem?_eq_getElem hlt] at hco'
                    exact hco'
                  generalize order[k] = oa at hco HP hpb HCO
                  obtain ⟨jj, hjj⟩ : ∃ n : Nat, pk oa (toAsk u).length = n := ⟨(pk oa (toAsk u).length).toNat, by omega⟩
                  rw [hjj] at HP hpb
                  have hjl : jj < (toAsk u).length := by omega
                  obtain ⟨ci, I0, I1, hci, H0, hd0, hd1, hz0, hz1, hs0, hs1, hbw, htl⟩ := tail_law HFITS.out HR5.out HR.out.i (by omega) HO1.out HO2.out hwO hwD hOD 5 D (.inr ⟨rfl, hst, rfl⟩) jj hjl hb5r
                  obtain ⟨z1, z2⟩ := hz0 _ H0
                  have HS0 := Lib.hid hs0
                  have H0h := Lib.hid (hd0 _ H0)
                  have HD1 := Lib.hid hd1
                  have HZ1 := Lib.hid hz1
                  have HS1 := Lib.hid hs1
                  have HC1 := Lib.hid (fun w h => HCO.out w (hbw w h))
                  have HTL := Lib.hid htl
                  clear hz0 H0 hd0 hs0 hd1 hz1 hs1 hbw htl
                  have i1 : (ci : Int) < 6 := by omega
                  have i3 : (jj : Int) < ((toAsk u).length : Int) := by omega
                  have i4 : (0 : Int) ≤ (k : Int) := by omega
                  have i5 : (k : Int) < (order.length : Int) := by omega
                  go_upto_region 27 with fail
                  go_wp2_with fail
                  refine (HP.out _).mono ?_; rintro e w8 ⟨rfl, rfl⟩
                  go_wp2_with fail
                  refine tail28_5 ?_ (by assumption) ?_ H0h HD1 z1 z2 HZ1 HS0 HS1 HC1 i1 i3 i5 ?_
                  · kernel_rfl
                  · kernel_rfl
                  clear z1 z2 hco
                  intro w9
                  intros
                  rename_i H1
                  obtain ⟨u', ob', db', HSR⟩ := HTL.out _ H1
                  go_wp2_with fail
                  go_roundw
                  case rel => exact ⟨k + 1, by omega, by omega, by go_num, u', ob', db', Lib.hid HSR⟩
                  case measure => simp [intOf]; omega
          · have ha := hdo hd
            have h0 := hnz.2 hd
            have h2 : stU u = 2 := by rw [hsv, ha, hd]; rfl
            rw [begun_st, h2] at HST
            rw [h0, ha]
            clear hnz hsv hdo
            go_wp2_with fail
            refine (HST.out _ HR5.out.w).mono ?_; rintro e w6 ⟨rfl, hU6, _⟩
            have HU6 := Lib.hid hU6
            clear hU6
            go_wp2_with fail
            refine (HST.out _ HU6.out).mono ?_; rintro e w7 ⟨rfl, hU7, _⟩
            have HU7 := Lib.hid hU7
            clear hU7
            go_wp2_with fail
            refine (HST.out _ HU7.out).mono ?_; rintro e w8 ⟨rfl, hU8, _⟩
            have HB := Lib.hid (below_then HWW.out hU8.w)
            clear hU8
            go_wp2_with fail
            go_ret
            exact ⟨rfl, HB.out⟩
    · have hfin : k = order.length ∨ (k < order.length ∧ k = 60) := by omega
      have HS := Lib.hid (stateW HR.out.w (by omega))
      have hst := st_cases HR.out.i.f
      generalize stU u = st at HS hst
      have h3 : (st != 3) = true := by
        rcases hst with rfl | rfl | rfl <;> rfl
      clear hst HR
      rcases hfin with hk1 | ⟨hk0, hk1⟩
      all_goals
        subst hk1
        go_wp2_with fail
        refine HS.out.mono ?_; rintro e w5 ⟨rfl, hU6, _⟩
        have HB := Lib.hid (below_then HWW.out hU6.w)
        clear hU6
        go_wp2_with fail
        go_ret
        exact ⟨rfl, HB.out⟩
end Go.Proofs.Ytaeeflfhjmjpjaa
