/- The walk of SettleDone. -/
import Derived.Test.YtaeeflfhjmjpjaaDoneP
import Derived.Test.YtaeeflfhjmjpjaaArgs
namespace Go.Proofs.Ytaeeflfhjmjpjaa
open Go.RowKit SlRd
set_option linter.unusedVariables false

set_option maxRecDepth 100000 in
set_option maxHeartbeats 1600000 in
theorem done_loop (kn : List Bool) (l : List Rc) (seq mask : Int) (h6 : l.length ≤ 6) (hkl : kn.length = l.length) (vr vm : Value) (w : World)
    (hsq : -9223372036854775808 ≤ seq ∧ seq ≤ 9223372036854775807) (hmk : -9223372036854775808 ≤ mask ∧ mask ≤ 9223372036854775807)
    (hcol : Hid (∀ W : World, Below w.heap.size w W → Calls Try.prog 16 #[vr, vm] W fun e w' => ∃ v1 v2, e = .returned (.tuple #[v1, v2]) ∧ Given w' kn l v1 v2 ∧ Below W.heap.size W w')) :
    Calls Try.prog 6 #[vr, vm, .int .i64 seq, .int .i64 mask] w fun e w' => e = .returned (.bool true) ∧ Below w.heap.size w w' := by
  have hp1 := Lib.hid (fun W => pick_any seq 3 hsq (by omega) (by omega) W)
  have hp2 := Lib.hid (fun W => pick_any mask 64 hmk (by omega) (by omega) W)
  obtain ⟨b1, b2⟩ := pk_bd seq 3 (by omega)
  obtain ⟨b3, b4⟩ := pk_bd mask 64 (by omega)
  generalize pk seq 3 = q at hp1 b1 b2
  generalize pk mask 64 = m at hp2 b3 b4
  go_enter Try.func6, Try.ntmps6
  go_wp2_with (go_at_call 15; refine (awake_any _).mono ?_; rintro e w1 ⟨rfl, hb1⟩)
  refine (hcol.out _ hb1).mono ?_; rintro e w2 ⟨v1, v2, rfl, hG, hb2⟩
  have hB2 := below_then hb1 hb2
  obtain ⟨al, cl, rfl⟩ : ∃ a c, v2 = .slice a l.length c := by obtain ⟨_, a, c, rfl, _⟩ := hG.rl; exact ⟨_, _, rfl⟩
  obtain ⟨ak, ck, rfl⟩ : ∃ a c, v1 = .slice a kn.length c := by obtain ⟨_, a, c, rfl, _⟩ := hG.rk; exact ⟨_, _, rfl⟩
  have HKL := Lib.hid hkl
  clear hkl hb1 hb2
  go_upto_region 4 with (go_at_call 19; refine (hp1.out _).mono ?_; rintro e w' ⟨rfl, rfl⟩)
  have N4 := New.of w2 [.int .i64 3, .int .i64 (1 + q)] 34
  generalize w2.alloc (.cells [.int .i64 3, .int .i64 (1 + q)].toArray 34) = w3 at N4 ⊢
  obtain ⟨N5, _, N7, N8⟩ := N4
  have hG3 := hG.below N7
  have hB3 := below_then hB2 N7
  clear hG hB2 N7
  generalize w2.heap.size = T at N5 N8 ⊢
  obtain ⟨t, ht⟩ : ∃ t : Tg, t = ⟨3, 1 + q⟩ := ⟨_, rfl⟩
  have ht1 : (3 : Int) = t.e := by rw [ht]
  have ht2 : 1 + q = t.s := by rw [ht]
  rw [ht1, ht2] at N5
  clear ht ht1 ht2
  go_wp2_with (go_at_call 19; refine (hp2.out _).mono ?_; rintro e w' ⟨rfl, rfl⟩)
  have T0 := N5 0
  have T1 := N5 1
  simp only [List.getElem?_cons_zero, List.getElem?_cons_succ] at T0 T1
  clear N5
  go_loopw [13, 14, 15, 16, 17] (fun d la so un c wr => ∃ (j : Nat) (u : Int), j ≤ l.length ∧ u = 2 ^ j ∧ c = .int .i64 j ∧ d = .bool (dD kn l t m j) ∧ la = .bool (dL kn l t m j) ∧ so = .bool (dS kn m j) ∧ un = .int .i64 u ∧ Below w3.heap.size w3 wr) (fun _ _ _ _ c _ => l.length - (intOf c).toNat)
  case atStart => exact ⟨0, 1, Nat.zero_le _, rfl, rfl, rfl, rfl, rfl, rfl, Below.refl _ _⟩
  case round =>
    obtain ⟨j, u, hj, hu, rfl, rfl, rfl, rfl, rfl, hb⟩ := hrel
    have hu2 := two_pow_bd j (by omega)
    rw [← hu] at hu2
    obtain ⟨u1, u2⟩ := hu2
    have t0 := (hb.cell (p := ⟨T, 0, none⟩) N8).trans T0
    have t1 := (hb.cell (p := ⟨T, 1, none⟩) N8).trans T1
    by_cases hlt : j < l.length
    · have hGr := hG3.below hb
      obtain ⟨b1', o1, rfl, hb1, hk1⟩ := hGr.rk.at1 j (by rw [HKL.out]; exact hlt)
      obtain ⟨b2', o2, rfl, hb2, _, hrow⟩ := hGr.cells j hlt
      rw [List.getElem?_map, List.getElem?_eq_getElem (by rw [HKL.out]; exact hlt)] at hk1
      have hkd : kn.getD j false = kn[j]'(by rw [HKL.out]; exact hlt) := by rw [List.getD_eq_getElem?_getD, List.getElem?_eq_getElem (by rw [HKL.out]; exact hlt)]; rfl
      simp only [Option.map_some] at hk1
      have HM := Lib.hid (miss kn l t m j)
      have HD := Lib.hid (dD_hit kn l t m j)
      have HL := Lib.hid (dL_hit kn l t m j)
      have HS := Lib.hid (dS_hit kn m j)
      have hbit : bitAt m j = (m / u % 2 == 1) := by unfold bitAt; rw [hu]
      rw [hbit, hkd] at HM HD HL HS
      have hu' : u + u = 2 ^ (j + 1) := by rw [hu, Int.pow_succ]; omega
      have HU := Lib.hid hu'
      generalize kn[j]'(by rw [HKL.out]; exact hlt) = x at hk1 HM HD HL HS
      generalize l.getD j default = r at hrow HD HL
      have i1 : (0 : Int) ≤ (j : Int) := by omega
      have i2 : (j : Int) < (l.length : Int) := by omega
      have i3 : (j : Int) < (kn.length : Int) := by have := HKL.out; omega
      have g2 := hrow 2 (by omega); have g3 := hrow 3 (by omega); have g5 := hrow 5 (by omega); have g6 := hrow 6 (by omega); have g7 := hrow 7 (by omega)
      simp only [Rc.cs, List.getElem?_cons_zero, List.getElem?_cons_succ] at g2 g3 g5 g6 g7
      obtain ⟨v1, v2⟩ := div_bd m u b3 (by omega) u1
      clear hrow hkd hu hu' hbit
      generalize dD kn l t m j = d at HM HD ⊢
      generalize dL kn l t m j = la at HM HL ⊢
      generalize dS kn m j = so at HM ⊢
      cases x
      · obtain ⟨e1, e2, e3⟩ := HM.out rfl
        have HE := Lib.hid (And.intro e1 (And.intro e2 e3))
        clear e1 e2 e3
        go_wp2_with fail
        go_roundw
        case rel => exact ⟨j + 1, 2 * u, by omega, by rw [← HU.out]; omega, by go_num, by rw [HE.out.1], by rw [HE.out.2.1], by rw [HE.out.2.2], rfl, hb⟩
        case measure => simp [intOf]; omega
      · cases hbt : (m / u % 2 == 1)
        · obtain ⟨e1, e2, e3⟩ := HM.out hbt
          have HE := Lib.hid (And.intro e1 (And.intro e2 e3))
          clear e1 e2 e3
          go_wp2_with fail
          go_roundw
          case rel => exact ⟨j + 1, 2 * u, by omega, by rw [← HU.out]; omega, by go_num, by rw [HE.out.1], by rw [HE.out.2.1], by rw [HE.out.2.2], rfl, hb⟩
          case measure => simp [intOf]; omega
        · have E1 := Lib.hid (HD.out hbt)
          have E2 := Lib.hid (HL.out hbt)
          have E3 := Lib.hid (HS.out hbt)
          clear HM HD HL HS
          have heq := eqTag
          cases hop : r.op
          all_goals
            rw [hop] at g5
            have HO := Lib.hid hop
            clear hop
            cases d <;> cases la
          all_goals
            go_wp2_with fail
            go_quiet (fail)
            go_wp2_with fail
            go_quiet (fail)
            go_wp2_with fail
            go_roundw
            case measure => simp [intOf]; omega
            case rel => exact ⟨j + 1, 2 * u, by omega, by rw [← HU.out]; omega, by go_num, by rw [E1.out]; rfl, by rw [E2.out, openP, HO.out]; first | rfl | simp, by rw [E3.out], rfl, below_drewN hb _⟩
    · obtain rfl : j = l.length := by omega
      have hFW := Lib.hid (FW_is HKL.out h6 t m)
      have hfw := forward_any (hG3.below hb) t m (by omega)
      have HFW := Lib.hid hfw
      generalize FW kn l t m = f at hFW HFW
      generalize dD kn l t m l.length = d at hFW ⊢
      generalize dL kn l t m l.length = la at hFW ⊢
      generalize dS kn m l.length = so at hFW ⊢
      clear hu hfw
      have hE : f = (d || so && !la) := hFW.out
      subst hE
      clear hFW
      have hB9 := hB3.trans (hb.mono hB3.size)
      cases d <;> cases so <;> cases la
      all_goals
        go_wp2_with (go_at_call 20; refine HFW.out.mono ?_; rintro e w' ⟨rfl, hb9⟩)
        go_ret
        exact ⟨rfl, below_then hB9 hb9⟩
theorem settleDone_walk (raw : List Cl) (vr : Value) (masks : List Int) (vm : Value) (seq mask : Int) (w : World) (hr : Rd w 4 vr raw.length (raw.flatMap Cl.cs)) (hok : ∀ x ∈ raw, x.ok) (hrl : raw.length ≤ 140737488351232)
    (hm : Rd w 1 vm masks.length (IV masks)) (hmk : ∀ x ∈ masks, -9223372036854775808 ≤ x ∧ x ≤ 9223372036854775807) (hml : masks.length ≤ 140737488351232)
    (hst : -9223372036854775808 ≤ seq ∧ seq ≤ 9223372036854775807) (hep : -9223372036854775808 ≤ mask ∧ mask ≤ 9223372036854775807) :
    Calls Try.prog 6 #[vr, vm, .int .i64 seq, .int .i64 mask] w fun e w' => e = .returned (.bool true) ∧ Below w.heap.size w w' :=
  done_loop ((six raw).map cKnown) ((six raw).map (cRec masks)) seq mask (by rw [List.length_map]; exact six_len raw) (by rw [List.length_map, List.length_map]) vr vm w hst hep (Lib.hid fun W hb => cols_given raw masks vr vm W (hr.below hb) (hm.below hb) hrl hml (Lib.hid hok) (Lib.hid hmk))
end Go.Proofs.Ytaeeflfhjmjpjaa
