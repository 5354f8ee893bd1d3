/- The walk of SettleEnds. -/
import Derived.Test.YtaeeflfhjmjpjaaEndsR
import Derived.Test.YtaeeflfhjmjpjaaArgs
import Derived.Deep.CutRange
namespace Go.Proofs.Ytaeeflfhjmjpjaa
open Go.RowKit SlRd
set_option linter.unusedVariables false

set_option maxRecDepth 100000 in
set_option maxHeartbeats 3200000 in
theorem ends_loop (kn : List Bool) (l : List Rc) (masks : List Int) (h : EOk kn l masks) (vr vm : Value) (w : World) (hm : Rd w 1 vm masks.length (IV masks)) (hml : masks.length ≤ 140737488351232)
    (hmk : Hid (∀ x ∈ masks, -9223372036854775808 ≤ x ∧ x ≤ 9223372036854775807))
    (hcol : Hid (∀ W : World, Below w.heap.size w W → Calls Try.prog 16 #[vr, vm] W fun e w' => ∃ v1 v2, e = .returned (.tuple #[v1, v2]) ∧ Given w' kn l v1 v2 ∧ Below W.heap.size W w')) :
    Calls Try.prog 3 #[vr, vm] w fun e w' => e = .returned (.bool true) ∧ Below w.heap.size w w' := by
  have H := Lib.hid h
  have h6 := h.six
  have HSet := Lib.hid (fun (W : World) vl vc vq h1 h2 h3 => settled_part (w := W) h 6 vl vc vq h1 h2 h3)
  have hmin : min (asked kn l).length 6 = (asked kn l).length := by have := asked_le kn l; omega
  rw [hmin] at HSet
  have HNow := Lib.hid (fun c hc hk => now_at h c hc hk)
  have HOpen := Lib.hid (fun s c hc ho => open_tag3 h s c hc ho)
  have HPl := Lib.hid (partS_len kn l (asked kn l).length)
  have hkl := h.len
  have HKL := Lib.hid hkl
  clear h hmin hkl
  generalize partS kn l (asked kn l).length = P at HSet HNow HPl
  obtain ⟨am, cm, rfl⟩ : ∃ a c, vm = .slice a masks.length c := by obtain ⟨_, a, c, rfl, _⟩ := hm; exact ⟨_, _, rfl⟩
  go_enter Try.func3, Try.ntmps3
  go_wp2_with (go_at_call 15; refine (awake_any _).mono ?_; rintro e w1 ⟨rfl, hb1⟩)
  refine (hcol.out _ hb1).mono ?_; rintro e w2 ⟨v1, v2, rfl, hG, hb2⟩
  have hB2 := below_then hb1 hb2
  obtain ⟨al, cl, rfl⟩ : ∃ a c, v2 = .slice a l.length c := by obtain ⟨_, a, c, rfl, _⟩ := hG.rl; exact ⟨_, _, rfl⟩
  obtain ⟨ak, ck, rfl⟩ : ∃ a c, v1 = .slice a kn.length c := by obtain ⟨_, a, c, rfl, _⟩ := hG.rk; exact ⟨_, _, rfl⟩
  clear hb1 hb2
  go_wp2_with fail
  refine (asks_any hG 1 5).mono ?_; rintro e w3 ⟨v3, v4, rfl, hc, hq, hb3⟩
  have hG3 := hG.below hb3
  have hB3 := below_then hB2 hb3
  have hC := Rd.of_owns hc
  have hQ := Rd.of_owns hq
  clear hG hB2 hb3 hc hq
  go_wp2_with fail
  refine (HSet.out _ _ _ _ hG3.rl hC hQ).mono ?_; rintro e w4 ⟨v5, rfl, hN, hb4⟩
  have hG4 := hG3.below hb4
  have hB4 := below_then hB3 hb4
  have hM4 := hm.below hB4
  obtain ⟨an, cn, rfl⟩ : ∃ a c, v5 = .slice a l.length c := by obtain ⟨_, a, c, rfl, _⟩ := hN; exact ⟨_, _, rfl⟩
  clear hG3 hB3 hb4 hC hQ HSet hm hcol
  go_wp2_with fail
  go_loopw [11] (fun s wr => ∃ k : Nat, 1 ≤ k ∧ k ≤ 4 ∧ s = .int .i64 k ∧ Below w4.heap.size w4 wr) (fun s _ => 4 - (intOf s).toNat)
  case atStart => exact ⟨1, by omega, by omega, rfl, Below.refl _ _⟩
  case round =>
    obtain ⟨k, hk1, hk4, rfl, hb⟩ := hrel
    by_cases hlt : k ≤ 3
    · go_upto_region 9 with fail
      have N4 := New.of wr [.int .i64 3, .int .i64 (k : Int)] 34
      generalize wr.alloc (.cells [.int .i64 3, .int .i64 (k : Int)].toArray 34) = w5 at N4 ⊢
      obtain ⟨N5, _, N7, N8⟩ := N4
      have hb5 := hb.trans (N7.mono hb.size)
      have T0 := N5 0
      have T1 := N5 1
      simp only [List.getElem?_cons_zero, List.getElem?_cons_succ] at T0 T1
      generalize wr.heap.size = T at N8 T0 T1 ⊢
      clear N5 N7 hb
      have hM5 := hM4.below hb5
      go_upto_if 46 with fail
      go_cut [13] (fun s13 wx => s13 = .int .i64 (cMask masks (k : Int)) ∧ wx = w5)
      case first =>
        as_aux_lemma =>
          by_cases hmm : k ≤ masks.length
          · obtain ⟨bm, om, rfl, hbm, hcm⟩ := hM5.at1 (k - 1) (by omega)
            unfold IV at hcm
            rw [List.getElem?_map, List.getElem?_eq_getElem (by omega)] at hcm
            simp only [Option.map_some] at hcm
            have hmv := hmk.out _ (List.getElem_mem (show k - 1 < masks.length by omega))
            have hme : Hid (cMask masks (k : Int) = 1 + pk (masks[k - 1]) 63) := by
              show _ = _
              unfold cMask
              rw [if_pos (by omega), show ((k : Int) - 1).toNat = k - 1 from by omega, List.getD_eq_getElem?_getD, List.getElem?_eq_getElem (by omega)]
              rfl
            generalize masks[k - 1] = mv at hcm hmv hme
            obtain ⟨p1, p2⟩ := pk_bd mv 63 (by omega)
            have HM := Lib.hid (fun W => pick_any mv 63 hmv (by omega) (by omega) W)
            generalize pk mv 63 = p at p1 p2 hme HM
            obtain ⟨k', rfl⟩ : ∃ k', k = k' + 1 := ⟨k - 1, by omega⟩
            simp only [Nat.add_sub_cancel] at hcm
            go_wp2_with fail
            refine (HM.out _).mono ?_; rintro e w' ⟨rfl, rfl⟩
            go_wp2_with fail
            go_meet
            exact ⟨by rw [hme.out], rfl⟩
          · have hme : Hid (cMask masks (k : Int) = 63) := by
              show _ = _
              unfold cMask
              rw [if_neg (by omega)]
            go_wp2_with fail
            go_meet
            exact ⟨by rw [hme.out], rfl⟩
      case rest =>
        obtain ⟨rfl, rfl⟩ := hcut
        clear hM5
        obtain ⟨m1, m2⟩ := cMask_bd masks (k : Int)
        have HOpk := Lib.hid (HOpen.out (k : Int))
        generalize cMask masks (k : Int) = M at m1 m2 HOpk ⊢
        have HFW := Lib.hid (FW_is HKL.out h6 ⟨3, (k : Int)⟩ M)
        have hG5 := hG4.below hb5
        have hN5 := hN.below hb5
        have HB5 := Lib.hid (hB4.trans (hb5.mono hB4.size))
        have Hb5 := Lib.hid hb5
        clear hb5
        go_wp2_with fail
        go_loopw [14, 15, 16, 17, 18, 19] (fun mn dn ws un c _ wx => ∃ (j : Nat) (y D : Int), j ≤ l.length ∧ y = 2 ^ j ∧ c = .int .i64 j ∧ un = .int .i64 y ∧ mn = .int .i64 (mny kn l ⟨3, (k : Int)⟩ j : Int) ∧ dn = .int .i64 D ∧ Hid (D = if FW kn l ⟨3, (k : Int)⟩ M then (mny kn l ⟨3, (k : Int)⟩ j : Int) else 0) ∧ ws = .bool (dD kn l ⟨3, (k : Int)⟩ M j) ∧ Below wc.heap.size wc wx) (fun _ _ _ _ c _ _ => l.length - (intOf c).toNat)
        case atStart => exact ⟨0, 1, 0, Nat.zero_le _, rfl, rfl, rfl, rfl, rfl, by show _ = _; cases FW kn l ⟨3, (k : Int)⟩ M <;> rfl, rfl, Below.refl _ _⟩
        case round =>
          obtain ⟨j, y, D, hj, hy, rfl, rfl, rfl, rfl, hD, rfl, hb⟩ := hrel
          have hu2 := two_pow_bd j (by omega)
          rw [← hy] at hu2
          obtain ⟨y1, y2⟩ := hu2
          have hmle := mny_le kn l ⟨3, (k : Int)⟩ j
          by_cases hlt2 : j < l.length
          · have hGr := hG5.below hb
            obtain ⟨b1, o1, rfl, hb1, hk1⟩ := hGr.rk.at1 j (by rw [HKL.out]; exact hlt2)
            obtain ⟨b2, o2, rfl, hb2, _, hrow⟩ := hGr.cells j hlt2
            obtain ⟨b3, o3, rfl, hb3, hrowN⟩ := Rd.atk Rc.cs (fun _ => rfl) (hN5.below hb) HPl.out.symm j (by rw [HPl.out]; exact hlt2)
            rw [List.getElem?_map, List.getElem?_eq_getElem (by rw [HKL.out]; exact hlt2)] at hk1
            have hkd : kn.getD j false = kn[j]'(by rw [HKL.out]; exact hlt2) := by rw [List.getD_eq_getElem?_getD, List.getElem?_eq_getElem (by rw [HKL.out]; exact hlt2)]; rfl
            have hPd : P[j]'(by rw [HPl.out]; exact hlt2) = P.getD j default := by rw [List.getD_eq_getElem?_getD, List.getElem?_eq_getElem (by rw [HPl.out]; exact hlt2)]; rfl
            rw [hPd] at hrowN
            simp only [Option.map_some] at hk1
            have HNw := Lib.hid (HNow.out j hlt2)
            have HOp := Lib.hid (HOpk.out j hlt2)
            have HMs := Lib.hid (mny_succ kn l ⟨3, (k : Int)⟩ j)
            have HMi := Lib.hid (fun hh => (miss kn l ⟨3, (k : Int)⟩ M j hh).1)
            have HHi := Lib.hid (fun hh => dD_hit kn l ⟨3, (k : Int)⟩ M j hh)
            have hbit : bitAt M j = (M / y % 2 == 1) := by unfold bitAt; rw [hy]
            unfold mnyP at HMs
            rw [hbit, hkd] at HMi HHi
            rw [hkd] at HMs HNw
            have hu' : y + y = 2 ^ (j + 1) := by rw [hy, Int.pow_succ]; omega
            have HU := Lib.hid hu'
            generalize kn[j]'(by rw [HKL.out]; exact hlt2) = x at hk1 HMi HHi HMs HNw
            generalize l.getD j default = r at hrow HNw HOp HMs HHi
            generalize P.getD j default = R at hrowN HNw
            have i1 : (0 : Int) ≤ (j : Int) := by omega
            have i2 : (j : Int) < (l.length : Int) := by omega
            have i3 : (j : Int) < (kn.length : Int) := by have := HKL.out; omega
            obtain ⟨z1, z2⟩ := div_bd M y (by omega) (by omega) y1
            have HY := Lib.hid hy
            clear hu' hbit hkd hPd hy
            cases x
            · have hE : Hid (mny kn l ⟨3, (k : Int)⟩ (j + 1) = mny kn l ⟨3, (k : Int)⟩ j) := by show _ = _; rw [HMs.out]; rfl
              have hDd := Lib.hid (HMi.out rfl)
              clear hrow hrowN
              as_aux_lemma =>
                go_wp2_with fail
                go_roundw
                case rel => exact ⟨j + 1, 2 * y, D, by omega, by rw [← HU.out]; omega, by go_num, rfl, by rw [hE.out], rfl, by show _ = _; rw [hE.out]; exact hD.out, by rw [hDd.out], hb⟩
                case measure => simp [intOf]; omega
            · have t0 := (hb.cell (p := ⟨T, 0, none⟩) N8).trans T0
              have t1 := (hb.cell (p := ⟨T, 1, none⟩) N8).trans T1
              have hRop : R.op = false := by
                rw [HNw.out rfl]
                cases hop : r.op
                · simpa using hop
                · simp only [if_true]
                  unfold sS
                  split <;> rfl
              have g2 := hrow 2 (by omega); have g3 := hrow 3 (by omega); have g4 := hrow 4 (by omega); have g5 := hrow 5 (by omega); have g6 := hrow 6 (by omega); have g7 := hrow 7 (by omega)
              have n5 := hrowN 5 (by omega)
              simp only [Rc.cs, List.getElem?_cons_zero, List.getElem?_cons_succ] at g2 g3 g4 g5 g6 g7 n5
              rw [hRop] at n5
              have heq := eqTag
              have HRow := Lib.hid hrow
              have HRowN := Lib.hid hrowN
              clear hrow hrowN
              go_upto_region 24 with fail
              go_cut [16, 19] from 54 to 173 (fun s16 s19 wx => s16 = .bool (dD kn l ⟨3, (k : Int)⟩ M (j + 1)) ∧ ∃ n, wx = wr.drewN n)
              case first =>
                as_aux_lemma =>
                  have hMi := HMi.out
                  have hHi := HHi.out
                  generalize dD kn l ⟨3, (k : Int)⟩ M j = d at hMi hHi ⊢
                  cases hbt : (M / y % 2 == 1)
                  · have hE := Lib.hid (hMi (by rw [hbt]; rfl))
                    clear hMi hHi
                    cases d
                    all_goals
                      go_quiet (fail)
                      go_wp2_with fail
                      go_meet
                      exact ⟨by rw [hE.out], _, rfl⟩
                  · have hE := Lib.hid (hHi (by rw [hbt]; rfl))
                    clear hMi hHi
                    cases d
                    all_goals
                      go_quiet (fail)
                      go_wp2_with fail
                      go_meet
                      exact ⟨by rw [hE.out]; rfl, _, rfl⟩
              case rest =>
                obtain ⟨rfl, nn, rfl⟩ := hcut
                have hDb : 0 ≤ D ∧ D ≤ 6 := by rw [hD.out]; split <;> omega
                obtain ⟨hD0, hD6⟩ := hDb
                cases hop : r.op
                · have hE : Hid (mny kn l ⟨3, (k : Int)⟩ (j + 1) = mny kn l ⟨3, (k : Int)⟩ j) := by show _ = _; rw [HMs.out, openP, hop]; rfl
                  as_aux_lemma =>
                    have hRr : R = r := by rw [HNw.out rfl, hop]; rfl
                    subst hRr
                    have heqr := fun W => eqRec W R R
                    rw [decide_eq_true rfl] at heqr
                    simp only [Rc.v] at heqr
                    rw [hop] at g5 heqr
                    have q0' := HRow.out 0 (by omega)
                    have q1' := HRow.out 1 (by omega)
                    have q8' := HRow.out 8 (by omega)
                    have q9' := HRow.out 9 (by omega)
                    simp only [Rc.cs, List.getElem?_cons_zero, List.getElem?_cons_succ, Nat.add_zero] at q0' q1' q8' q9'
                    have p0' := HRowN.out 0 (by omega)
                    have p1' := HRowN.out 1 (by omega)
                    have p2' := HRowN.out 2 (by omega)
                    have p3' := HRowN.out 3 (by omega)
                    have p4' := HRowN.out 4 (by omega)
                    have p6' := HRowN.out 6 (by omega)
                    have p7' := HRowN.out 7 (by omega)
                    have p8' := HRowN.out 8 (by omega)
                    have p9' := HRowN.out 9 (by omega)
                    simp only [Rc.cs, List.getElem?_cons_zero, List.getElem?_cons_succ, Nat.add_zero] at p0' p1' p2' p3' p4' p6' p7' p8' p9'
                    have HH := Lib.hid hop
                    clear hop hRop
                    go_wp2_with fail
                    go_quiet (fail)
                    go_wp2_with fail
                    go_quiet (fail)
                    go_wp2_with fail
                    go_roundw
                    case rel => exact ⟨j + 1, 2 * y, D, by omega, by rw [← HU.out]; omega, by go_num, rfl, by rw [hE.out], rfl, by show _ = _; rw [hE.out]; exact hD.out, rfl, below_drewN hb _⟩
                    case measure => simp [intOf]; omega
                · rw [hop] at g5
                  cases hint : (r.intent.e == 3 && r.intent.s == (k : Int))
                  · have hE : Hid (mny kn l ⟨3, (k : Int)⟩ (j + 1) = mny kn l ⟨3, (k : Int)⟩ j) := by show _ = _; rw [HMs.out, openP, hop, hint]; rfl
                    as_aux_lemma =>
                      go_wp2_with fail
                      go_quiet (fail)
                      go_wp2_with fail
                      go_quiet (fail)
                      go_wp2_with fail
                      go_roundw
                      case rel => exact ⟨j + 1, 2 * y, D, by omega, by rw [← HU.out]; omega, by go_num, rfl, by rw [hE.out], rfl, by show _ = _; rw [hE.out]; exact hD.out, rfl, below_drewN hb _⟩
                      case measure => simp [intOf]; omega
                  · have hE : Hid (mny kn l ⟨3, (k : Int)⟩ (j + 1) = mny kn l ⟨3, (k : Int)⟩ j + 1) := by show _ = _; rw [HMs.out, openP, hop, hint]; rfl
                    obtain ⟨hdn, hFr, hin⟩ := HOp.out (by unfold openP; rw [hop, hint]; rfl)
                    have hR := HNw.out rfl
                    rw [hop, hFr] at hR
                    simp only [if_true] at hR
                    have HDn := Lib.hid hdn
                    cases hF : FW kn l ⟨3, (k : Int)⟩ M
                    · rw [hF] at hR
                      as_aux_lemma =>
                        have hR2 : R = shutR r := hR
                        subst hR2
                        have p2' := HRowN.out 2 (by omega)
                        have p3' := HRowN.out 3 (by omega)
                        have p4' := HRowN.out 4 (by omega)
                        simp only [Rc.cs, List.getElem?_cons_zero, List.getElem?_cons_succ] at p2' p3' p4'
                        rw [HDn.out] at g2 g3 p2' p3'
                        simp only at g2 g3 p2' p3'
                        have hD2 : Hid (D = 0) := by show _ = _; rw [hD.out, hF]; rfl
                        have HF := Lib.hid hF
                        clear hF hR hdn hFr hin
                        go_wp2_with fail
                        go_quiet (fail)
                        go_wp2_with fail
                        go_quiet (fail)
                        go_wp2_with fail
                        go_quiet (fail)
                        go_wp2_with fail
                        go_roundw
                        case rel => exact ⟨j + 1, 2 * y, D, by omega, by rw [← HU.out]; omega, by go_num, rfl, by rw [hE.out]; go_num, rfl, by show _ = _; rw [HF.out]; exact hD2.out, rfl, below_drewN hb _⟩
                        case measure => simp [intOf]; omega
                    · rw [hF] at hR
                      as_aux_lemma =>
                        have hR2 : R = finR r := hR
                        subst hR2
                        have p2' := HRowN.out 2 (by omega)
                        have p3' := HRowN.out 3 (by omega)
                        have p4' := HRowN.out 4 (by omega)
                        simp only [Rc.cs, List.getElem?_cons_zero, List.getElem?_cons_succ] at p2' p3' p4'
                        have g9' := HRow.out 9 (by omega)
                        simp only [Rc.cs, List.getElem?_cons_zero, List.getElem?_cons_succ] at g9'
                        have hD2 : Hid (D = (mny kn l ⟨3, (k : Int)⟩ j : Int)) := by show _ = _; rw [hD.out, hF]; rfl
                        have HF := Lib.hid hF
                        clear hF hR hdn hFr hin
                        go_wp2_with fail
                        go_quiet (fail)
                        go_wp2_with fail
                        go_quiet (fail)
                        go_wp2_with fail
                        go_roundw
                        case rel => exact ⟨j + 1, 2 * y, D + 1, by omega, by rw [← HU.out]; omega, by go_num, rfl, by rw [hE.out]; go_num, by go_num, by show _ = _; rw [HF.out, hE.out]; simp only [if_true]; have := hD2.out; omega, rfl, below_drewN hb _⟩
                        case measure => simp [intOf]; omega
          · obtain rfl : j = l.length := by omega
            as_aux_lemma =>
              have hWF : dD kn l ⟨3, (k : Int)⟩ M l.length = true → FW kn l ⟨3, (k : Int)⟩ M = true := fun hh => by rw [HFW.out, hh]; rfl
              have HWF := Lib.hid hWF
              clear hWF hy
              have HBB := Lib.hid ((Hb5.out).trans (hb.mono Hb5.out.size))
              generalize mny kn l ⟨3, (k : Int)⟩ l.length = m at hmle hD ⊢
              generalize dD kn l ⟨3, (k : Int)⟩ M l.length = d at HWF ⊢
              cases hF : FW kn l ⟨3, (k : Int)⟩ M
              · have hD2 : D = 0 := by rw [hD.out, hF]; rfl
                have hd : d = false := by cases d with | false => rfl | true => rw [HWF.out rfl] at hF; cases hF
                subst hD2
                subst hd
                clear hF
                go_wp2_with fail
                go_roundw
                case rel => exact ⟨k + 1, by omega, by omega, by go_num, HBB.out⟩
                case measure => simp [intOf]; omega
              · have hD2 : D = (m : Int) := by rw [hD.out, hF]; rfl
                subst hD2
                clear hF
                by_cases hz : m = 0
                all_goals cases d
                all_goals
                  go_wp2_with fail
                  go_roundw
                  case rel => exact ⟨k + 1, by omega, by omega, by go_num, HBB.out⟩
                  case measure => simp [intOf]; omega
    · obtain rfl : k = 4 := by omega
      go_wp2_with fail
      go_ret
      exact ⟨rfl, hB4.trans (hb.mono hB4.size)⟩
end Go.Proofs.Ytaeeflfhjmjpjaa
