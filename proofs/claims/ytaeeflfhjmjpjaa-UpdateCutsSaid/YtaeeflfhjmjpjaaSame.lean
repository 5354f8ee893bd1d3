/- The walk of law15.same. -/
import Derived.Test.YtaeeflfhjmjpjaaInts
import Derived.Test.YtaeeflfhjmjpjaaEqs
namespace Go.Proofs.Ytaeeflfhjmjpjaa
open Go.RowKit SlRd
set_option linter.unusedVariables false

set_option maxRecDepth 100000 in
set_option maxHeartbeats 800000 in
theorem same_any (xs ys : List Ak) (va vb : Value) (w : World) (ha : Rd w 9 va xs.length (xs.flatMap Ak.cs)) (hb : Rd w 9 vb ys.length (ys.flatMap Ak.cs)) (hl1 : xs.length ≤ 140737488351232) (hl2 : ys.length ≤ 140737488351232) :
    Calls Try.prog 26 #[va, vb] w fun e w' => e = .returned (.bool (decide (xs = ys))) ∧ Below w.heap.size w w' := by
  obtain ⟨a1, c1, rfl⟩ : ∃ a c, va = .slice a xs.length c := by obtain ⟨_, a, c, rfl, _⟩ := ha; exact ⟨_, _, rfl⟩
  obtain ⟨a2, c2, rfl⟩ : ∃ a c, vb = .slice a ys.length c := by obtain ⟨_, a, c, rfl, _⟩ := hb; exact ⟨_, _, rfl⟩
  go_enter Try.func26, Try.ntmps26
  by_cases he : xs.length = ys.length
  · have hne : ((xs.length : Int) != (ys.length : Int)) = false := by rw [bne_eq_false_iff_eq]; omega
    have HE := Lib.hid he
    clear he
    go_wp2_with fail
    go_loopw [5] (fun i wr => ∃ k : Nat, k ≤ xs.length ∧ i = .int .i64 k ∧ xs.take k = ys.take k ∧ Below w.heap.size w wr) (fun i _ => xs.length - (intOf i).toNat)
    case atStart => exact ⟨0, Nat.zero_le _, rfl, rfl, Below.refl _ _⟩
    case round =>
      obtain ⟨k, hk, rfl, htk, hbl⟩ := hrel
      by_cases hlt : k < xs.length
      · have hlt2 : k < ys.length := by have := HE.out; omega
        obtain ⟨b, o, rfl, hb1, hc1⟩ := Rd.atk Ak.cs (fun _ => rfl) (ha.below hbl) rfl k hlt
        obtain ⟨b', o', rfl, hb2, hc2⟩ := Rd.atk Ak.cs (fun _ => rfl) (hb.below hbl) rfl k hlt2
        have hts := take_succ_eq htk hlt hlt2
        generalize hx : xs[k] = x at hc1 hts
        generalize hy : ys[k] = y at hc2 hts
        have HX := Lib.hid hx
        have HY := Lib.hid hy
        have HT := Lib.hid htk
        have HS := Lib.hid hts
        have p0 := hc1 0 (by omega); have p1 := hc1 1 (by omega); have p2 := hc1 2 (by omega); have p3 := hc1 3 (by omega); have p4 := hc1 4 (by omega)
        have p5 := hc1 5 (by omega); have p6 := hc1 6 (by omega); have p7 := hc1 7 (by omega); have p8 := hc1 8 (by omega)
        have q0 := hc2 0 (by omega); have q1 := hc2 1 (by omega); have q2 := hc2 2 (by omega); have q3 := hc2 3 (by omega); have q4 := hc2 4 (by omega)
        have q5 := hc2 5 (by omega); have q6 := hc2 6 (by omega); have q7 := hc2 7 (by omega); have q8 := hc2 8 (by omega)
        simp only [Ak.cs, List.getElem?_cons_zero, List.getElem?_cons_succ, Nat.add_zero] at p0 p1 p2 p3 p4 p5 p6 p7 p8 q0 q1 q2 q3 q4 q5 q6 q7 q8
        have heq := fun W => eqAsk W x y
        simp only [Ak.v] at heq
        clear hx hy htk hts hc1 hc2 ha hb
        have i1 : (0 : Int) ≤ (k : Int) := by omega
        have i2 : (k : Int) < (xs.length : Int) := by omega
        have i3 : (k : Int) < (ys.length : Int) := by omega
        go_upto_region 6 with fail
        go_quiet (fail)
        by_cases hxy : x = y
        · have HG := Lib.hid (HS.out.2 hxy)
          rw [decide_eq_true hxy]
          clear hxy
          go_wp2_with fail
          go_roundw
          case rel => exact ⟨k + 1, by omega, by go_num, HG.out, below_drewN hbl _⟩
          case measure => simp [intOf]; omega
        · rw [decide_eq_false hxy]
          go_wp2_with fail
          go_ret
          refine ⟨?_, below_drewN hbl _⟩
          rw [decide_eq_false (by intro h; apply hxy; exact HS.out.1 (by rw [h]))]
          rfl
      · go_wp2_with fail
        go_ret
        rw [List.take_of_length_le (by omega), List.take_of_length_le (by have := HE.out; omega)] at htk
        exact ⟨by rw [decide_eq_true htk]; rfl, hbl⟩
  · have hne : ((xs.length : Int) != (ys.length : Int)) = true := by rw [bne_iff_ne]; omega
    go_wp2_with fail
    go_ret
    exact ⟨by rw [decide_eq_false (by intro h; subst h; exact he rfl)]; rfl, Below.refl _ _⟩
end Go.Proofs.Ytaeeflfhjmjpjaa
