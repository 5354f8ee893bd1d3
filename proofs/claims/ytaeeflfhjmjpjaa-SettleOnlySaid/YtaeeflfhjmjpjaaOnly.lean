/- The walk of SettleOnly. -/
import Derived.Test.YtaeeflfhjmjpjaaOnlyP
import Derived.Test.YtaeeflfhjmjpjaaArgs
namespace Go.Proofs.Ytaeeflfhjmjpjaa
open Go.RowKit SlRd
set_option linter.unusedVariables false

set_option maxRecDepth 100000 in
set_option maxHeartbeats 1600000 in
theorem only_loop (kn : List Bool) (l : List Rc) (stripe epoch : Int) (h6 : l.length ≤ 6) (hkl : kn.length = l.length) (vr vm : Value) (w : World)
    (hcol : Hid (∀ W : World, Below w.heap.size w W → Calls Try.prog 16 #[vr, vm] W fun e w' => ∃ v1 v2, e = .returned (.tuple #[v1, v2]) ∧ Given w' kn l v1 v2 ∧ Below W.heap.size W w')) :
    Calls Try.prog 5 #[vr, vm, .int .i64 stripe, .int .i64 epoch] w fun e w' => e = .returned (.bool true) ∧ Below w.heap.size w w' := by
  go_enter Try.func5, Try.ntmps5
  go_wp2_with (go_at_call 15; refine (awake_any _).mono ?_; rintro e w1 ⟨rfl, hb1⟩)
  refine (hcol.out _ hb1).mono ?_; rintro e w2 ⟨v1, v2, rfl, hG, hb2⟩
  have hB2 := below_then hb1 hb2
  clear hb1 hb2
  go_wp2_with fail
  refine (asks_any hG stripe epoch).mono ?_; rintro e w3 ⟨v3, v4, rfl, hc, hq, hb3⟩
  have hG3 := hG.below hb3
  have hB3 := below_then hB2 hb3
  have hC := Rd.of_owns hc
  have hQ := Rd.of_owns hq
  obtain ⟨a3, c3, rfl⟩ := owns_form hc
  obtain ⟨a4, c4, rfl⟩ := owns_form hq
  obtain ⟨al, cl, rfl⟩ : ∃ a c, v2 = .slice a l.length c := by obtain ⟨_, a, c, rfl, _⟩ := hG.rl; exact ⟨_, _, rfl⟩
  obtain ⟨ak, ck, rfl⟩ : ∃ a c, v1 = .slice a kn.length c := by obtain ⟨_, a, c, rfl, _⟩ := hG.rk; exact ⟨_, _, rfl⟩
  rw [asked_eq hkl h6] at hC hQ ⊢
  have HKL := Lib.hid hkl
  clear hkl hc hq hG hB2 hb3
  go_wp2_with fail
  go_loopw [14, 15] (fun k c wr => ∃ j : Nat, j ≤ l.length ∧ c = .int .i64 j ∧ k = .int .i64 ((ASK kn l j).length : Int) ∧ Below w3.heap.size w3 wr) (fun _ c _ => l.length - (intOf c).toNat)
  case atStart => exact ⟨0, Nat.zero_le _, rfl, rfl, Below.refl _ _⟩
  case round =>
    obtain ⟨j, hj, rfl, rfl, hb⟩ := hrel
    by_cases hlt : j < l.length
    · have hGr := hG3.below hb
      obtain ⟨b1, o1, rfl, hb1, hk1⟩ := hGr.rk.at1 j (by rw [HKL.out]; exact hlt)
      obtain ⟨b2, o2, rfl, hb2, _, hrow⟩ := hGr.cells j hlt
      rw [List.getElem?_map, List.getElem?_eq_getElem (by rw [HKL.out]; exact hlt)] at hk1
      have hkd : kn.getD j false = kn[j]'(by rw [HKL.out]; exact hlt) := by rw [List.getD_eq_getElem?_getD, List.getElem?_eq_getElem (by rw [HKL.out]; exact hlt)]; rfl
      have HS := Lib.hid (ASK_succ kn l j)
      have HL := Lib.hid (fun h => ASK_lt kn l (c := j) hlt h)
      have hP : Hid (askP kn l j = (kn.getD j false && (l.getD j default).op)) := rfl
      have hA : Hid (askOf kn l stripe epoch j = ⟨6, stripe, epoch, 0, if FW kn l (l.getD j default).intent (l.getD j default).mask then 1 else 0, 0, (l.getD j default).intent, ⟨#[]⟩⟩) := rfl
      rw [hkd] at hP
      simp only [Option.map_some] at hk1
      generalize kn[j]'(by rw [HKL.out]; exact hlt) = x at hk1 hP
      generalize l.getD j default = r at hrow hP hA
      have i1 : (0 : Int) ≤ (j : Int) := by omega
      have i2 : (j : Int) < (l.length : Int) := by omega
      have i3 : (j : Int) < (kn.length : Int) := by have := HKL.out; omega
      have g5 := hrow 5 (by omega); have g6 := hrow 6 (by omega); have g7 := hrow 7 (by omega)
      simp only [Rc.cs, List.getElem?_cons_zero, List.getElem?_cons_succ] at g5 g6 g7
      clear hrow hkd
      cases x
      · have HE : Hid ((ASK kn l (j + 1)).length = (ASK kn l j).length) := by show _ = _; rw [HS.out, hP]; rfl
        clear hP
        go_wp2_with fail
        go_roundw
        case rel => exact ⟨j + 1, by omega, by go_num, by rw [HE.out], hb⟩
        case measure => simp [intOf]; omega
      · cases hop : r.op
        · have HE : Hid ((ASK kn l (j + 1)).length = (ASK kn l j).length) := by show _ = _; rw [HS.out, hP, hop]; rfl
          rw [hop] at g5
          clear hP hop
          go_wp2_with fail
          go_roundw
          case rel => exact ⟨j + 1, by omega, by go_num, by rw [HE.out], hb⟩
          case measure => simp [intOf]; omega
        · have hp : askP kn l j = true := by rw [hP, hop]; rfl
          have HE : Hid ((ASK kn l (j + 1)).length = (ASK kn l j).length + 1) := by show _ = _; rw [HS.out, hp]; simp
          obtain ⟨m1, m2⟩ := HL.out hp
          rw [hop] at g5
          obtain ⟨b3, o3, rfl, hb3, hc3⟩ := (hC.below hb).at1 _ m1
          obtain ⟨b4, o4, rfl, hb4, hq4⟩ := Rd.atk Ak.cs (fun _ => rfl) (hQ.below hb) (by rw [List.length_map]) _ (by rw [List.length_map]; exact m1)
          unfold NV at hc3
          rw [List.getElem?_map, m2] at hc3
          rw [List.getElem_map, (List.getElem?_eq_some_iff.1 m2).2, hA] at hq4
          simp only [Option.map_some] at hc3
          have i6 := ASK_le kn l j
          clear hP hop hp HS HL m2
          generalize hm : (ASK kn l j).length = m at *
          have HM := Lib.hid hm
          clear hm
          have i7 : (m : Int) ≤ 6 := by omega
          obtain ⟨z, hz⟩ : ∃ z : Int, z = if FW kn l r.intent r.mask then 1 else 0 := ⟨_, rfl⟩
          have hz2 : z = 0 ∨ z = 1 := by rw [hz]; cases FW kn l r.intent r.mask <;> simp
          rw [← hz] at hq4
          have q0 := hq4 0 (by omega); have q1 := hq4 1 (by omega); have q2 := hq4 2 (by omega); have q3 := hq4 3 (by omega); have q4 := hq4 4 (by omega); have q5 := hq4 5 (by omega); have q6 := hq4 6 (by omega); have q7 := hq4 7 (by omega); have q8 := hq4 8 (by omega)
          simp only [Ak.cs, List.getElem?_cons_zero, List.getElem?_cons_succ, Nat.add_zero] at q0 q1 q2 q3 q4 q5 q6 q7 q8
          have heq : ∀ W, _ := fun W => eqAsk W ⟨6, stripe, epoch, 0, z, 0, r.intent, ⟨#[]⟩⟩ ⟨6, stripe, epoch, 0, z, 0, r.intent, ⟨#[]⟩⟩
          simp only [Ak.v, decide_true] at heq
          clear hz hq4
          have i4 : (m : Int) < ((ASK kn l l.length).length : Int) := by omega
          have i5 : (0 : Int) ≤ (m : Int) := by omega
          go_upto_region 12 with fail
          have N4 := New.of wr (Ak.cs ⟨6, stripe, epoch, 0, z, 0, r.intent, ⟨#[]⟩⟩) 43
          generalize wr.alloc (.cells (Ak.cs ⟨6, stripe, epoch, 0, z, 0, r.intent, ⟨#[]⟩⟩).toArray 43) = w4 at N4 ⊢
          obtain ⟨N5, _, N7, N8⟩ := N4
          have n0 := N5 0; have n1 := N5 1; have n2 := N5 2; have n3 := N5 3; have n4 := N5 4; have n5 := N5 5; have n6 := N5 6; have n7 := N5 7; have n8 := N5 8
          simp only [Ak.cs, List.getElem?_cons_zero, List.getElem?_cons_succ] at n0 n1 n2 n3 n4 n5 n6 n7 n8
          have k6 := (N7.cell (p := ⟨b2, o2 + j * 10 + 6, none⟩) hb2).trans g6
          have k7 := (N7.cell (p := ⟨b2, o2 + j * 10 + 7, none⟩) hb2).trans g7
          have hb5 := hb.trans (N7.mono hb.size)
          clear q0 q1 q2 q3 q4 q5 q6 q7 q8 g5 g6 g7 N5 hb hk1 hc3
          rcases hz2 with rfl | rfl
          all_goals
            go_quiet (fail)
            go_wp2_with fail
            go_roundw
            case rel => exact ⟨j + 1, by omega, by go_num, by rw [HE.out]; go_num, below_drewN hb5 _⟩
            case measure => simp [intOf]; omega
    · obtain rfl : j = l.length := by omega
      go_wp2_with fail
      go_ret
      exact ⟨rfl, hB3.trans (hb.mono hB3.size)⟩

theorem settleOnly_walk (raw : List Cl) (vr : Value) (masks : List Int) (vm : Value) (stripe epoch : Int) (w : World) (hr : Rd w 4 vr raw.length (raw.flatMap Cl.cs)) (hok : ∀ x ∈ raw, x.ok) (hrl : raw.length ≤ 140737488351232)
    (hm : Rd w 1 vm masks.length (IV masks)) (hmk : ∀ x ∈ masks, -9223372036854775808 ≤ x ∧ x ≤ 9223372036854775807) (hml : masks.length ≤ 140737488351232)
    (hst : -9223372036854775808 ≤ stripe ∧ stripe ≤ 9223372036854775807) (hep : -9223372036854775808 ≤ epoch ∧ epoch ≤ 9223372036854775807) :
    Calls Try.prog 5 #[vr, vm, .int .i64 stripe, .int .i64 epoch] w fun e w' => e = .returned (.bool true) ∧ Below w.heap.size w w' :=
  only_loop ((six raw).map cKnown) ((six raw).map (cRec masks)) stripe epoch (by rw [List.length_map]; exact six_len raw) (by rw [List.length_map, List.length_map]) vr vm w (Lib.hid fun W hb => cols_given raw masks vr vm W (hr.below hb) (hm.below hb) hrl hml (Lib.hid hok) (Lib.hid hmk))
end Go.Proofs.Ytaeeflfhjmjpjaa
