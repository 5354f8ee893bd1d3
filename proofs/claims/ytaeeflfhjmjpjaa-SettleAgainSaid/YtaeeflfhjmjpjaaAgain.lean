/- The walk of SettleAgain. -/
import Derived.Test.YtaeeflfhjmjpjaaAgainQ
import Derived.Test.YtaeeflfhjmjpjaaArgs
import Derived.Deep.CutRange
namespace Go.Proofs.Ytaeeflfhjmjpjaa
open Go.RowKit SlRd
set_option linter.unusedVariables false

theorem info40 : (Try.prog.info? 40).map (fun i => (i.zero, i.size, i.bytes)) = some (some (.agg #[.int .i64 0, .int .i64 0, .int .i64 0, .string ⟨#[]⟩]), 4, 40) := by kernel_rfl

set_option maxRecDepth 100000 in
set_option maxHeartbeats 3200000 in
/-- from the columns on -/
theorem again_loop (raw : List Cl) (mask far : Int) (vr : Value) (w : World) (hr : Rd w 4 vr raw.length (raw.flatMap Cl.cs)) (hok : Hid (∀ x ∈ raw, x.ok)) (hrl : raw.length ≤ 140737488351232)
    (hmk : -9223372036854775808 ≤ mask ∧ mask ≤ 9223372036854775807) (hfr : -9223372036854775808 ≤ far ∧ far ≤ 9223372036854775807) :
    Calls Try.prog 4 #[vr, .int .i64 mask, .int .i64 far] w fun e w' => e = .returned (.bool true) ∧ Below w.heap.size w w' := by
  obtain ⟨ar, cr, rfl⟩ : ∃ a c, vr = .slice a raw.length c := by obtain ⟨_, a, c, rfl, _⟩ := hr; exact ⟨_, _, rfl⟩
  obtain ⟨i0, hi, hz0, hz1, hz2⟩ := info_parts info40
  have HX : Hid (∀ x ∈ (raw.take 6).map zeroSeq, x.ok) := fun x hx => by
    obtain ⟨z, hz, rfl⟩ := List.mem_map.1 hx
    obtain ⟨o1, o2, _, o4⟩ := hok.out z (List.mem_of_mem_take hz)
    exact ⟨o1, o2, ⟨by show (-9223372036854775808 : Int) ≤ 0; omega, by show (0 : Int) ≤ 9223372036854775807; omega⟩, o4⟩
  have HOne := Lib.hid (one_cols (raw.take 6) mask)
  have hp1 := Lib.hid (fun W => pick_any far 7 hfr (by omega) (by omega) W)
  have hp2 := Lib.hid (fun W => pick_any mask 63 hmk (by omega) (by omega) W)
  have hl6 : ((raw.take 6).map zeroSeq).length ≤ 6 := by rw [List.length_map, List.length_take]; omega
  go_enter Try.func4, Try.ntmps4
  go_wp2_with fail
  refine (awake_any _).mono ?_; rintro e w1 ⟨rfl, hb1⟩
  have hr1 := hr.below hb1
  go_upto_block 0 with fail
  go_cut [8] from 24 to 42 (fun s8 wx => wx.ownsRow w1.heap.size 40 4 s8 ((raw.take 6).map zeroSeq).length (((raw.take 6).map zeroSeq).flatMap Cl.cs) ∧ Below w1.heap.size w1 wx)
  case first =>
    as_aux_lemma =>
      go_wp2_with fail
      go_loopw [8, 9] (fun v i wr => ∃ k : Nat, k ≤ 6 ∧ k ≤ raw.length ∧ i = .int .i64 k ∧ wr.ownsRow w1.heap.size 40 4 v k (((raw.take k).map zeroSeq).flatMap Cl.cs) ∧ Below w1.heap.size w1 wr) (fun _ i _ => 6 - (intOf i).toNat)
      case atStart => exact ⟨0, by omega, by omega, rfl, World.ownsRow_nil _ _ _ _, Below.refl _ _⟩
      case round =>
        obtain ⟨k, hk6, hkl, rfl, hown, hb⟩ := hrel
        by_cases hlt : k < raw.length
        · by_cases hlt6 : k < 6
          · obtain ⟨b, o, rfl, hbb, hrow⟩ := Rd.atk Cl.cs (fun _ => rfl) (hr1.below hb) rfl k hlt
            have ht1 : (raw.take (k + 1)) = raw.take k ++ [raw[k]] := List.take_succ_eq_append_getElem hlt
            generalize raw[k] = x at hrow ht1
            have HT : Hid (((raw.take (k + 1)).map zeroSeq).flatMap Cl.cs = ((raw.take k).map zeroSeq).flatMap Cl.cs ++ (zeroSeq x).cs) := by
              show _ = _
              rw [ht1, List.map_append, List.flatMap_append]
              simp
            have h0 := hrow 0 (by omega); have h1 := hrow 1 (by omega); have h2 := hrow 2 (by omega); have h3 := hrow 3 (by omega)
            simp only [Cl.cs, List.getElem?_cons_zero, List.getElem?_cons_succ, Nat.add_zero] at h0 h1 h2 h3
            have k1 : (k : Int) < (raw.length : Int) := by omega
            have k0 : (0 : Int) ≤ (k : Int) := by omega
            clear hrow ht1
            go_upto_region 8 with fail
            have N := New.of wr (Cl.cs ⟨x.known, x.has, 0, x.block⟩) 40
            generalize wr.alloc (.cells (Cl.cs ⟨x.known, x.has, 0, x.block⟩).toArray 40) = w3 at N ⊢
            obtain ⟨hq0, _, hal, hz3⟩ := N
            have n1 := owns_below hown hal
            have hb3 := hb.trans (hal.mono hb.size)
            have c0 := hq0 0; have c1 := hq0 1; have c2 := hq0 2; have c3 := hq0 3
            simp only [Cl.cs, List.getElem?_cons_zero, List.getElem?_cons_succ] at c0 c1 c2 c3
            have hbw := Lib.hid (fun p hp => owns_lt n1 p hp)
            clear h0 h1 h2 h3 hown hb hq0
            go_wp2_with (at_builtin; refine wpList_append_own _ rfl (.tmp 39) (.tmp 41) 22 rfl w1.heap.size 40 i0 _ 4 40 Try.underlying22 hi hz0 hz1 hz2 rfl (by decide) _ _ _ rfl (n1.alloc _) ⟨w3.heap.size, 0, none⟩ 1 1 (zeroSeq x).cs rfl rfl ?e1 ?e2 ?e3 ?e4 ?e5 ?_)
            case e1 =>
              intro j u hj
              rw [Go.WideShapes.add_plain, Nat.zero_add, World.cell?_alloc_at _ _ _ _ rfl]
              simpa [zeroSeq] using hj
            case e2 =>
              intro u hu
              simp only [Cl.cs, zeroSeq, List.mem_cons, List.not_mem_nil, or_false] at hu
              rcases hu with rfl | rfl | rfl | rfl <;> rfl
            case e3 => unfold maxLen; omega
            case e4 => omega
            case e5 => have := hb3.size; simp; omega
            · intro v2 w6 o3 hg2 _
              have hb6 := (hb3.alloc hb3.size _).grown hg2 (by have := hb3.size; simp; omega) (fun q hq => (hbw.out q hq).1)
              have O : Hid (w6.ownsRow w1.heap.size 40 4 v2 (k + 1) (((raw.take (k + 1)).map zeroSeq).flatMap Cl.cs)) := by
                show World.ownsRow _ _ _ _ _ _ _
                rw [HT.out, List.map_take]
                exact o3
              have HB := Lib.hid hb6
              clear o3 hg2 hb3 hb6 n1
              go_wp2_with fail
              go_roundw
              case rel => exact ⟨k + 1, by omega, by omega, by go_num, O.out, HB.out⟩
              case measure => simp [intOf]; omega
          · obtain rfl : k = 6 := by omega
            have e : ((raw.take 6).map zeroSeq).length = 6 := by rw [List.length_map, List.length_take]; omega
            have E := Lib.hid e
            clear e
            go_wp2_with fail
            go_meet
            exact ⟨by rw [E.out]; exact hown, hb⟩
        · obtain rfl : k = raw.length := by omega
          have e : raw.take 6 = raw := List.take_of_length_le hk6
          have E := Lib.hid e
          clear e
          go_wp2_with fail
          go_meet
          exact ⟨by rw [E.out, List.length_map]; rw [List.take_length] at hown; exact hown, hb⟩
  case rest =>
    obtain ⟨hown, hb⟩ := hcut
    have hB1 := below_then hb1 hb
    have hR := Rd.of_owns hown
    obtain ⟨f, hf, hf7⟩ : ∃ f : Nat, pk far 7 = (f : Int) ∧ f < 7 := ⟨(pk far 7).toNat, by have := pk_bd far 7 (by omega); omega, by have := pk_bd far 7 (by omega); omega⟩
    rw [hf] at hp1
    clear hf hown hb hb1 hr1
    go_wp2_with fail
    have hal : Below wc.heap.size wc (wc.alloc (.cells #[.int .i64 mask] 3)) := (Below.refl _ _).alloc (Nat.le_refl _) _
    have hm1 : Rd (wc.alloc (.cells #[.int .i64 mask] 3)) 1 (.slice (some ⟨wc.heap.size, 0, none⟩) 1 1) 1 (IV [mask]) := Rd.lit #[.int .i64 mask] 3 1 1 rfl
    refine (cols_given ((raw.take 6).map zeroSeq) [mask] _ _ _ (hR.below hal) hm1 (by omega) (by simp) HX (Lib.hid fun x hx => by rw [List.mem_singleton] at hx; rw [hx]; exact hmk)).mono ?_; rintro e w2 ⟨v1, v2, rfl, hG, hb2⟩
    have hB2 := below_then (below_then hB1 hal) hb2
    generalize ((six ((raw.take 6).map zeroSeq)).map cKnown) = kn at HOne hG
    generalize ((six ((raw.take 6).map zeroSeq)).map (cRec [mask])) = l at HOne hG
    clear hal hm1 hR hB1 HX hl6
    have h6 := HOne.out.six
    have hSet := Lib.hid (fun (W : World) m a b c h1 h2 h3 => settled_one (w := W) HOne.out m a b c h1 h2 h3)
    obtain ⟨al, cl, rfl⟩ : ∃ a c, v2 = .slice a l.length c := by obtain ⟨_, a, c, rfl, _⟩ := hG.rl; exact ⟨_, _, rfl⟩
    go_wp2_with fail
    refine (asks_any hG 1 5).mono ?_; rintro e w3 ⟨v3, v4, rfl, hc, hq, hb3⟩
    have hG3 := hG.below hb3
    have hB3 := below_then hB2 hb3
    have hC := Rd.of_owns hc
    have hQ := Rd.of_owns hq
    clear hG hB2 hb3 hc hq
    go_wp2_with fail
    refine (hSet.out _ 6 _ _ _ hG3.rl hC hQ).mono ?_; rintro e w4 ⟨v5, rfl, hN, hb4⟩
    rw [show min (asked kn l).length 6 = (asked kn l).length from by have := asked_le kn l; omega] at hN
    have hG4 := hG3.below hb4
    have hC4 := hC.below hb4
    have hQ4 := hQ.below hb4
    have hB4 := below_then hB3 hb4
    clear hG3 hC hQ hB3 hb4
    go_wp2_with fail
    refine (hp1.out _).mono ?_; rintro e w' ⟨rfl, rfl⟩
    go_wp2_with fail
    refine (hSet.out _ f _ _ _ hG4.rl hC4 hQ4).mono ?_; rintro e w5 ⟨v6, rfl, hP, hb5⟩
    obtain ⟨k, hk⟩ : ∃ k, k = min (asked kn l).length f := ⟨_, rfl⟩
    rw [← hk] at hP
    have hkl : k ≤ (asked kn l).length := by omega
    have hOP := Lib.hid (one_part HOne.out k hkl (qok_one HOne.out))
    have HSame := Lib.hid (again_same HOne.out k hkl)
    have HLen := Lib.hid (partS_len kn l k)
    have HLen2 := Lib.hid (partS_len kn l (asked kn l).length)
    have hN5 := hN.below hb5
    have hG5 := hG4.below hb5
    have hB5 := below_then hB4 hb5
    have hGP : Given w5 kn (partS kn l k) v1 v6 := given_one hOP.out hG5.rk (by rw [HLen.out]; exact hP)
    clear hk hN hG4 hC4 hQ4 hB4 hb5 hP hkl
    go_wp2_with fail
    refine (asks_any hGP 1 5).mono ?_; rintro e w6 ⟨v7, v8, rfl, hc, hq, hb6⟩
    have hGP6 := hGP.below hb6
    have hN6 := hN5.below hb6
    have hB6 := below_then hB5 hb6
    have hC := Rd.of_owns hc
    have hQ := Rd.of_owns hq
    clear hGP hN5 hB5 hG5 hc hq hb6
    go_wp2_with fail
    refine (settled_one hOP.out 6 _ _ _ hGP6.rl hC hQ).mono ?_; rintro e w7 ⟨v9, rfl, hW, hb7⟩
    rw [show min (asked kn (partS kn l k)).length 6 = (asked kn (partS kn l k)).length from by have := asked_le kn (partS kn l k); omega, HSame.out, HLen.out] at hW
    have hN7 := hN6.below hb7
    have hB7 := below_then hB6 hb7
    clear hGP6 hC hQ hN6 hB6 hb7
    generalize partS kn l (asked kn l).length = P at hW hN7 HLen2
    obtain ⟨aw, cw, rfl⟩ : ∃ a c, v9 = .slice a l.length c := by obtain ⟨_, a, c, rfl, _⟩ := hW; exact ⟨_, _, rfl⟩
    obtain ⟨an, cn, rfl⟩ : ∃ a c, v5 = .slice a l.length c := by obtain ⟨_, a, c, rfl, _⟩ := hN7; exact ⟨_, _, rfl⟩
    obtain ⟨b1, b2⟩ := pk_bd mask 63 (by omega)
    generalize pk mask 63 = p at hp2 b1 b2
    clear HSame HOne hSet hOP HLen
    go_wp2_with fail
    go_loopw [20, 21, 22] (fun un c _ wx => ∃ (j : Nat) (y : Int), j ≤ l.length ∧ y = 2 ^ j ∧ c = .int .i64 j ∧ un = .int .i64 y ∧ Below w7.heap.size w7 wx) (fun _ c _ _ => l.length - (intOf c).toNat)
    case atStart => exact ⟨0, 1, Nat.zero_le _, rfl, rfl, rfl, Below.refl _ _⟩
    case round =>
      obtain ⟨j, y, hj, hy, rfl, rfl, hb⟩ := hrel
      have hu2 := two_pow_bd j (by omega)
      rw [← hy] at hu2
      obtain ⟨y1, y2⟩ := hu2
      by_cases hlt : j < l.length
      · as_aux_lemma =>
          obtain ⟨b3, o3, rfl, hb3, hr1⟩ := Rd.atk Rc.cs (fun _ => rfl) (hW.below hb) HLen2.out.symm j (by rw [HLen2.out]; exact hlt)
          obtain ⟨b4, o4, rfl, hb4, hr2⟩ := Rd.atk Rc.cs (fun _ => rfl) (hN7.below hb) HLen2.out.symm j (by rw [HLen2.out]; exact hlt)
          generalize P[j]'(by rw [HLen2.out]; exact hlt) = R at hr1 hr2
          have p0 := hr1 0 (by omega); have p1 := hr1 1 (by omega); have p2 := hr1 2 (by omega); have p3 := hr1 3 (by omega); have p4 := hr1 4 (by omega); have p5 := hr1 5 (by omega); have p6 := hr1 6 (by omega); have p7 := hr1 7 (by omega); have p8 := hr1 8 (by omega); have p9 := hr1 9 (by omega)
          have q0 := hr2 0 (by omega); have q1 := hr2 1 (by omega); have q2 := hr2 2 (by omega); have q3 := hr2 3 (by omega); have q4 := hr2 4 (by omega); have q5 := hr2 5 (by omega); have q6 := hr2 6 (by omega); have q7 := hr2 7 (by omega); have q8 := hr2 8 (by omega); have q9 := hr2 9 (by omega)
          simp only [Rc.cs, List.getElem?_cons_zero, List.getElem?_cons_succ, Nat.add_zero] at p0 p1 p2 p3 p4 p5 p6 p7 p8 p9 q0 q1 q2 q3 q4 q5 q6 q7 q8 q9
          have heqr := fun W => eqRec W R R
          rw [decide_eq_true rfl] at heqr
          simp only [Rc.v] at heqr
          have i1 : (0 : Int) ≤ (j : Int) := by omega
          have i2 : (j : Int) < (l.length : Int) := by omega
          have hu' : y + y = 2 ^ (j + 1) := by rw [hy, Int.pow_succ]; omega
          have HU := Lib.hid hu'
          obtain ⟨z1, z2⟩ := div_bd (1 + p) y (by omega) (by omega) y1
          clear hr1 hr2 hu' hy
          cases hbt : ((1 + p) / y % 2 == 1)
          all_goals
            go_wp2_with fail
            refine (hp2.out _).mono ?_; rintro e w' ⟨rfl, rfl⟩
            go_wp2_with fail
            go_quiet (fail)
            go_wp2_with fail
            go_roundw
            case rel => exact ⟨j + 1, 2 * y, by omega, by rw [← HU.out]; omega, by go_num, rfl, below_drewN hb _⟩
            case measure => simp [intOf]; omega
      · obtain rfl : j = l.length := by omega
        go_wp2_with fail
        go_ret
        exact ⟨rfl, hB7.trans (hb.mono hB7.size)⟩
end Go.Proofs.Ytaeeflfhjmjpjaa
