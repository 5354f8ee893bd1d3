/- The walk of SettleFew. -/
import Derived.Test.YtaeeflfhjmjpjaaFewP
import Derived.Test.YtaeeflfhjmjpjaaArgs
namespace Go.Proofs.Ytaeeflfhjmjpjaa
open Go.RowKit SlRd
set_option linter.unusedVariables false

set_option maxRecDepth 100000 in
set_option maxHeartbeats 1600000 in
theorem settleFew_walk (mask lost : Int) (w : World)
    (hmk : -9223372036854775808 ≤ mask ∧ mask ≤ 9223372036854775807) (hls : -9223372036854775808 ≤ lost ∧ lost ≤ 9223372036854775807) :
    Calls Try.prog 9 #[.int .i64 mask, .int .i64 lost] w fun e w' => e = .returned (.bool true) ∧ Below w.heap.size w w' := by
  have hp1 := Lib.hid (fun W => pick_any mask 63 hmk (by omega) (by omega) W)
  have hp2 := Lib.hid (fun W => pick_any lost 7 hls (by omega) (by omega) W)
  obtain ⟨b1, b2⟩ := pk_bd mask 63 (by omega)
  obtain ⟨b3, b4⟩ := pk_bd lost 7 (by omega)
  generalize pk mask 63 = p at hp1 b1 b2
  generalize pk lost 7 = q at hp2 b3 b4
  obtain ⟨i0, hi, hz0, hz1, hz2⟩ := info_parts info4
  obtain ⟨j0, hj, hy0, hy1, hy2⟩ := info_parts info37
  go_enter Try.func9, Try.ntmps9
  go_wp2_with fail
  refine (awake_any _).mono ?_; rintro e w1 ⟨rfl, hb1⟩
  go_wp2_with fail
  refine (hp1.out _).mono ?_; rintro e w' ⟨rfl, rfl⟩
  go_wp2_with fail
  refine (hp2.out _).mono ?_; rintro e w' ⟨rfl, rfl⟩
  go_wp2_with fail
  have N4 := New.of w1 [.int .i64 3, .int .i64 1] 34
  generalize w1.alloc (.cells [.int .i64 3, .int .i64 1].toArray 34) = W at N4 ⊢
  obtain ⟨N5, _, N7, N8⟩ := N4
  have hB := below_then hb1 N7
  have T0 := N5 0
  have T1 := N5 1
  simp only [List.getElem?_cons_zero, List.getElem?_cons_succ] at T0 T1
  generalize w1.heap.size = T at N8 T0 T1 ⊢
  clear hb1 N5 N7
  generalize hm : 1 + p = m
  have m1 : 1 ≤ m := by omega
  have m2 : m ≤ 63 := by omega
  clear hm
  go_loopw [6, 7, 8, 9, 11] (fun v u n un c wr => ∃ (j : Nat) (y : Int), j ≤ 6 ∧ y = 2 ^ j ∧ c = .int .i64 j ∧ un = .int .i64 y ∧ n = .int .i64 (fMany m q j : Int) ∧ wr.ownsRow W.heap.size 37 10 v j ((fL m j).flatMap Rc.cs) ∧ wr.ownsRow W.heap.size 4 1 u j ((fK q j).map Value.bool) ∧ Below W.heap.size W wr) (fun _ _ _ _ c _ => 6 - (intOf c).toNat)
  case atStart => exact ⟨0, 1, by omega, rfl, rfl, rfl, rfl, World.ownsRow_nil _ _ _ _, World.ownsRow_nil _ _ _ _, Below.refl _ _⟩
  case round =>
    obtain ⟨j, y, hj6, hy, rfl, rfl, rfl, hown1, hown2, hb⟩ := hrel
    have hu2 := two_pow_bd j hj6
    rw [← hy] at hu2
    obtain ⟨y1, y2⟩ := hu2
    by_cases hlt : j < 6
    · have t0 := (hb.cell (p := ⟨T, 0, none⟩) N8).trans T0
      have t1 := (hb.cell (p := ⟨T, 1, none⟩) N8).trans T1
      have hbit : bitAt m j = (m / y % 2 == 1) := by unfold bitAt; rw [hy]
      have hu' : y + y = 2 ^ (j + 1) := by rw [hy, Int.pow_succ]; omega
      have HU := Lib.hid hu'
      have HBit := Lib.hid hbit
      have HM := Lib.hid (fMany_succ m q j)
      have hmle := fMany_le m q j
      obtain ⟨z1, z2⟩ := div_bd m y (by omega) (by omega) y1
      clear hu' hbit hy
      go_upto_if 32 with fail
      have N := New.of wr fShut.cs 37
      generalize wr.alloc (.cells fShut.cs.toArray 37) = w3 at N ⊢
      obtain ⟨hq0, hqf, hal, hz3⟩ := N
      have n1 := owns_below hown1 hal
      have n2 := owns_below hown2 hal
      have hbw1 := Lib.hid (fun p hp => owns_lt hown1 p hp)
      have hbw2 := Lib.hid (fun p hp => owns_lt hown2 p hp)
      have hb3 := hb.trans (hal.mono hb.size)
      have hTz : T < wr.heap.size := Nat.lt_of_lt_of_le N8 hb.size
      have s0 := (hal.cell (p := ⟨T, 0, none⟩) hTz).trans t0
      have s1 := (hal.cell (p := ⟨T, 1, none⟩) hTz).trans t1
      have hlow := hb.size
      clear hown1 hown2 hb hal t0 t1
      generalize wr.heap.size = B2 at hq0 hqf hz3 hbw1 hbw2 hTz hlow ⊢
      go_cut [8] (fun s8 wx => s8 = .int .i64 (fMany m q (j + 1) : Int) ∧ (∀ k, wx.cell? ⟨B2, k, none⟩ = (fR m j).cs[k]?) ∧ wx.ownsRow W.heap.size 37 10 u6 j ((fL m j).flatMap Rc.cs) ∧ wx.ownsRow W.heap.size 4 1 u7 j ((fK q j).map Value.bool) ∧ Below W.heap.size W wx ∧ B2 < wx.heap.size)
      case first =>
        cases hbt : (m / y % 2 == 1)
        · have hE : Hid (fMany m q (j + 1) = fMany m q j) := by show _ = _; rw [HM.out, HBit.out, hbt, Bool.and_false]; rfl
          have hR : Hid (fR m j = fShut) := by show _ = _; unfold fR; rw [HBit.out, hbt]; rfl
          go_wp2_with fail
          go_meet
          exact ⟨by rw [hE.out], by rw [hR.out]; exact hq0, n1, n2, hb3, hz3⟩
        · have hR : Hid (fR m j = fOpen m) := by show _ = _; unfold fR; rw [HBit.out, hbt]; rfl
          have hE : Hid (fMany m q (j + 1) = fMany m q j + if ((j : Int) != q) = true then 1 else 0) := by show _ = _; rw [HM.out, HBit.out, hbt, Bool.and_true]
          have b5 := hq0 5; have b6 := hq0 6; have b7 := hq0 7; have b8 := hq0 8; have b9 := hq0 9
          have f5 := hqf 5; have f6 := hqf 6; have f7 := hqf 7; have f8 := hqf 8; have f9 := hqf 9
          simp only [Rc.cs, List.getElem?_cons_zero, List.getElem?_cons_succ] at b5 b6 b7 b8 b9
          have nb1 : ∀ p, u6.ownBlock = some p → p ≠ B2 := fun p hp => by have := (hbw1.out p hp).2; omega
          have nb2 : ∀ p, u7.ownBlock = some p → p ≠ B2 := fun p hp => by have := (hbw2.out p hp).2; omega
          have g1 := owns_setCell (owns_setCell (owns_setCell (owns_setCell (owns_setCell n1 ⟨B2, 5, none⟩ (.bool true) nb1) ⟨B2, 6, none⟩ (.int .i64 3) nb1) ⟨B2, 7, none⟩ (.int .i64 1) nb1) ⟨B2, 8, none⟩ (.int .i64 m) nb1) ⟨B2, 9, none⟩ (.string txt1) nb1
          have g2 := owns_setCell (owns_setCell (owns_setCell (owns_setCell (owns_setCell n2 ⟨B2, 5, none⟩ (.bool true) nb2) ⟨B2, 6, none⟩ (.int .i64 3) nb2) ⟨B2, 7, none⟩ (.int .i64 1) nb2) ⟨B2, 8, none⟩ (.int .i64 m) nb2) ⟨B2, 9, none⟩ (.string txt1) nb2
          have gc := cellsAt_set (cellsAt_set (cellsAt_set (cellsAt_set (cellsAt_set hq0 5 (by simp) (.bool true)) 6 (by simp) (.int .i64 3)) 7 (by simp) (.int .i64 1)) 8 (by simp) (.int .i64 m)) 9 (by simp) (.string txt1)
          have gb := ((((hb3.setCell (p := ⟨B2, 5, none⟩) hlow (.bool true)).setCell (p := ⟨B2, 6, none⟩) hlow (.int .i64 3)).setCell (p := ⟨B2, 7, none⟩) hlow (.int .i64 1)).setCell (p := ⟨B2, 8, none⟩) hlow (.int .i64 m)).setCell (p := ⟨B2, 9, none⟩) hlow (.string txt1)
          have gz : B2 < (((((w3.setCell ⟨B2, 5, none⟩ (.bool true)).setCell ⟨B2, 6, none⟩ (.int .i64 3)).setCell ⟨B2, 7, none⟩ (.int .i64 1)).setCell ⟨B2, 8, none⟩ (.int .i64 m)).setCell ⟨B2, 9, none⟩ (.string txt1)).heap.size := by rw [BRow.size_setCell, BRow.size_setCell, BRow.size_setCell, BRow.size_setCell, BRow.size_setCell]; exact hz3
          have fin : Hid (∀ k, (((((w3.setCell ⟨B2, 5, none⟩ (.bool true)).setCell ⟨B2, 6, none⟩ (.int .i64 3)).setCell ⟨B2, 7, none⟩ (.int .i64 1)).setCell ⟨B2, 8, none⟩ (.int .i64 m)).setCell ⟨B2, 9, none⟩ (.string txt1)).cell? ⟨B2, k, none⟩ = (fR m j).cs[k]?) := by
            intro k
            rw [hR.out, gc k]
            rfl
          have G1 := Lib.hid g1
          have G2 := Lib.hid g2
          have GB := Lib.hid gb
          have GZ := Lib.hid gz
          clear n1 n2 hb3 hq0 hqf gc g1 g2 gb gz
          cases hjq : ((j : Int) != q)
          · rw [hjq] at hE
            go_wp2_with fail
            go_meet
            exact ⟨by rw [hE.out]; rfl, fin.out, G1.out, G2.out, GB.out, GZ.out⟩
          · rw [hjq] at hE
            go_wp2_with fail
            go_meet
            exact ⟨by rw [hE.out]; go_num, fin.out, G1.out, G2.out, GB.out, GZ.out⟩
      case rest =>
        obtain ⟨rfl, hq4, n1, n2, hb4, hz4⟩ := hcut
        have hmle2 := fMany_le m q (j + 1)
        have HL := Lib.hid (fL_succ m j)
        have HK := Lib.hid (fK_succ q j)
        have lL := fL_len m j
        have lK := fK_len q j
        generalize fR m j = R at hq4 HL
        have q0 := hq4 0; have q1 := hq4 1; have q2 := hq4 2; have q3 := hq4 3; have q4 := hq4 4; have q5 := hq4 5; have q6 := hq4 6; have q7 := hq4 7; have q8 := hq4 8; have q9 := hq4 9
        simp only [Rc.cs, List.getElem?_cons_zero, List.getElem?_cons_succ] at q0 q1 q2 q3 q4 q5 q6 q7 q8 q9
        clear hq4 s0 s1 hq0 hqf lL lK
        go_wp2_with (at_builtin; refine wpList_append_own _ rfl (.tmp 46) (.tmp 48) 26 rfl W.heap.size 37 j0 _ 10 96 Try.underlying26 hj hy0 hy1 hy2 rfl (by decide) _ _ _ rfl (n1.alloc _) ⟨wc.heap.size, 0, none⟩ 1 1 R.cs rfl rfl ?e1 ?e2 ?e3 ?e4 ?e5 ?_)
        case e1 =>
          intro j u hj
          rw [Go.WideShapes.add_plain, Nat.zero_add, World.cell?_alloc_at _ _ _ _ rfl]
          simpa using hj
        case e2 =>
          intro u hu
          simp only [Rc.cs, List.mem_cons, List.not_mem_nil, or_false] at hu
          rcases hu with rfl | rfl | rfl | rfl | rfl | rfl | rfl | rfl | rfl | rfl <;> rfl
        case e3 => unfold maxLen; omega
        case e4 => omega
        case e5 => have := hb4.size; simp; omega
        · intro v2 w6 o3 hg2 _
          have hb6 := (hb4.alloc hb4.size _).grown hg2 (by have := hb4.size; simp; omega) (fun q hq => (hbw1.out q hq).1)
          have O2 : Hid (w6.ownsRow W.heap.size 37 10 v2 (j + 1) ((fL m (j + 1)).flatMap Rc.cs)) := by
            show World.ownsRow _ _ _ _ _ _ _
            rw [HL.out, List.flatMap_append, List.flatMap_singleton]
            exact o3
          have o1 := owns_other (owns_below n2 ((Below.refl _ _).alloc (Nat.le_refl _) _)) (n1.alloc _) (by decide) hg2
          have hbw3 := Lib.hid (fun p hp => owns_lt o1 p hp)
          clear o3 hg2 hb4 n1 n2 q0 q1 q2 q3 q4 q5 q6 q7 q8 q9
          go_wp2_with (at_builtin; refine wpList_append_own _ rfl (.tmp 50) (.tmp 54) 25 rfl W.heap.size 4 i0 (.bool false) 1 1 Try.underlying25 hi hz0 hz1 hz2 rfl (by decide) _ _ _ rfl (o1.alloc _) ⟨w6.heap.size, 0, none⟩ 1 1 [.bool ((j : Int) != q)] rfl rfl ?c1 ?c2 ?c3 ?c4 ?c5 ?_)
          case c1 =>
            intro j u hj
            match j, hj with
            | 0, hj => simp at hj; subst hj; simp [Addr.add]
          case c2 => intro u hu; simp at hu; subst hu; rfl
          case c3 => unfold maxLen; omega
          case c4 => omega
          case c5 => have := hb6.size; simp; omega
          · intro v3 w7 o5 hg3 _
            have hb7 := (hb6.alloc hb6.size _).grown hg3 (by have := hb6.size; simp; omega) (fun q hq => (hbw3.out q hq).1)
            have O4 := Lib.hid (owns_other (owns_below O2.out ((Below.refl _ _).alloc (Nat.le_refl _) _)) (o1.alloc _) (by decide) hg3)
            have O5 : Hid (w7.ownsRow W.heap.size 4 1 v3 (j + 1) ((fK q (j + 1)).map Value.bool)) := by
              show World.ownsRow _ _ _ _ _ _ _
              rw [HK.out, List.map_append]
              exact o5
            have HB := Lib.hid hb7
            clear o1 o5 hg3 hb7 hb6
            go_wp2_with fail
            go_roundw
            case rel => exact ⟨j + 1, 2 * y, by omega, by rw [← HU.out]; omega, by go_num, rfl, rfl, O4.out, O5.out, HB.out⟩
            case measure => simp [intOf]; omega
    · obtain rfl : j = 6 := by omega
      have t0 := (hb.cell (p := ⟨T, 0, none⟩) N8).trans T0
      have t1 := (hb.cell (p := ⟨T, 1, none⟩) N8).trans T1
      have hTr := Nat.lt_of_lt_of_le N8 hb.size
      have hG := fGiven (q := q) (by omega) (Rd.of_owns hown2) (Rd.of_owns hown1)
      have hB3 := hB.trans (hb.mono hB.size)
      have hmle := fMany_le m q 6
      have HLen := Lib.hid (fMany_asked m q)
      have HIn := Lib.hid (fun i hi => fAsked_in m q (i := i) hi)
      have HMk := Lib.hid (fun i hi => fMask m q (i := i) hi)
      have HF := Lib.hid (fFW m q)
      have HD := Lib.hid (fDN m q)
      have HA := Lib.hid (asks_any hG 1 5)
      have hFwd := Lib.hid (fun (W : World) (H : Given W (fK q 6) (fL m 6) u7 u6) => forward_any H ⟨3, 1⟩ m (by omega))
      have hDn := Lib.hid (fun (W : World) (H : Given W (fK q 6) (fL m 6) u7 u6) => done_any H ⟨3, 1⟩)
      rw [HF.out] at hFwd
      rw [HD.out] at hDn
      generalize fMany m q 6 = n at *
      generalize asked (fK q 6) (fL m 6) = A at *
      generalize askOf (fK q 6) (fL m 6) 1 5 = f at *
      clear hown1 hown2 hb y1 y2 hy
      go_wp2_with fail
      refine HA.out.mono ?_; rintro e w3 ⟨v3, v4, rfl, hc, hq, hb3⟩
      have hG3 := hG.below hb3
      have hB4 := below_then hB3 hb3
      have a0 := (hb3.cell (p := ⟨T, 0, none⟩) hTr).trans t0
      have a1 := (hb3.cell (p := ⟨T, 1, none⟩) hTr).trans t1
      have hT4 := Nat.lt_of_lt_of_le hTr hb3.size
      rw [HLen.out] at hc hq
      have hC := Rd.of_owns hc
      have hQ := Rd.of_owns hq
      obtain ⟨a3, c3, rfl⟩ := owns_form hc
      obtain ⟨a4, c4, rfl⟩ := owns_form hq
      have hne : ((n : Int) != (n : Int)) = false := by simp
      clear hc hq hb3 hB3 hG t0 t1 hTr
      go_wp2_with fail
      go_loopw [15] (fun c wr => ∃ i : Nat, i ≤ n ∧ c = .int .i64 i ∧ Below w3.heap.size w3 wr) (fun c _ => n - (intOf c).toNat)
      case atStart => exact ⟨0, Nat.zero_le _, rfl, Below.refl _ _⟩
      case round =>
        obtain ⟨i, hi6, rfl, hb⟩ := hrel
        by_cases hlt : i < n
        · obtain ⟨b3', o3, rfl, hb3, hc3⟩ := (hC.below hb).at1 i hlt
          have hlA : i < A.length := by rw [HLen.out]; exact hlt
          obtain ⟨b4', o4, rfl, hb4, hq4⟩ := Rd.atk Ak.cs (fun _ => rfl) (hQ.below hb) (by rw [List.length_map, HLen.out]) i (by rw [List.length_map]; exact hlA)
          unfold NV at hc3
          rw [List.getElem?_map, List.getElem?_eq_getElem hlA] at hc3
          simp only [Option.map_some] at hc3
          have hin := HIn.out A[i] (List.getElem_mem hlA)
          have hmk := HMk.out A[i] (List.getElem_mem hlA)
          rw [List.getElem_map, hmk] at hq4
          have m4 := hq4 4 (by omega)
          simp only [Ak.cs, List.getElem?_cons_zero, List.getElem?_cons_succ] at m4
          have hcq : ((A[i] : Int) == q) = false := by rw [beq_eq_false_iff_ne]; exact hin.2.1
          generalize A[i] = x at hc3 hcq
          clear hmk hq4 hin
          go_wp2_with fail
          go_roundw
          case rel => exact ⟨i + 1, by omega, by go_num, hb⟩
          case measure => simp [intOf]; omega
        · obtain rfl : i = n := by omega
          have d0 := (hb.cell (p := ⟨T, 0, none⟩) hT4).trans a0
          have d1 := (hb.cell (p := ⟨T, 1, none⟩) hT4).trans a1
          have hT5 := Nat.lt_of_lt_of_le hT4 hb.size
          have hG5 := hG3.below hb
          have hB5 := below_then hB4 hb
          clear a0 a1 hB4 hC hQ
          go_wp2_with fail
          refine (hFwd.out _ hG5).mono ?_; rintro e w5 ⟨rfl, hb6⟩
          have hG6 := hG5.below hb6
          have hB6 := below_then hB5 hb6
          have e0 := (hb6.cell (p := ⟨T, 0, none⟩) hT5).trans d0
          have e1 := (hb6.cell (p := ⟨T, 1, none⟩) hT5).trans d1
          clear d0 d1 hB5
          by_cases hn : 0 < i
          all_goals
            go_wp2_with fail
            refine (hDn.out _ hG6).mono ?_; rintro e w6 ⟨rfl, hb7⟩
            go_wp2_with fail
            go_ret
            exact ⟨rfl, below_then hB6 hb7⟩
end Go.Proofs.Ytaeeflfhjmjpjaa
