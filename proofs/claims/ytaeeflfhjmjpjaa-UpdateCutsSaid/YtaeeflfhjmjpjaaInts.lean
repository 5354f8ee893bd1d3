/- The walks of law06.Ints and law15.same. -/
import Derived.Test.YtaeeflfhjmjpjaaAsks
import Derived.Deep.QuietTactic
import Derived.BigQuiet
namespace Go.Proofs.Ytaeeflfhjmjpjaa
open Go.RowKit SlRd
set_option linter.unusedVariables false

theorem take_succ_eq {α : Type} {xs ys : List α} {k : Nat} (h : xs.take k = ys.take k) (h1 : k < xs.length) (h2 : k < ys.length) : (xs.take (k + 1) = ys.take (k + 1)) ↔ xs[k] = ys[k] := by
  rw [List.take_succ_eq_append_getElem h1, List.take_succ_eq_append_getElem h2, h]
  constructor
  · intro e
    have := List.append_cancel_left e
    simpa using this
  · intro e
    rw [e]

theorem below_drewN {B : Nat} {a w : World} (h : Below B a w) (n : Nat) : Below B a (w.drewN n) := ⟨h.os, h.tape, h.output, h.size, h.block⟩

def IV (l : List Int) : List Value := l.map (Value.int .i64)

set_option maxRecDepth 100000 in
theorem ints_any (xs ys : List Int) (va vb : Value) (w : World) (ha : Rd w 1 va xs.length (IV xs)) (hb : Rd w 1 vb ys.length (IV ys)) (hl1 : xs.length ≤ 140737488351232) (hl2 : ys.length ≤ 140737488351232) :
    Calls Try.prog 25 #[va, vb] w fun e w' => e = .returned (.bool (decide (xs = ys))) ∧ Below w.heap.size w w' := by
  obtain ⟨a1, c1, rfl⟩ : ∃ a c, va = .slice a xs.length c := by obtain ⟨_, a, c, rfl, _⟩ := ha; exact ⟨_, _, rfl⟩
  obtain ⟨a2, c2, rfl⟩ : ∃ a c, vb = .slice a ys.length c := by obtain ⟨_, a, c, rfl, _⟩ := hb; exact ⟨_, _, rfl⟩
  go_enter Try.func25, Try.ntmps25
  by_cases he : xs.length = ys.length
  · have hne : ((xs.length : Int) != (ys.length : Int)) = false := by rw [bne_eq_false_iff_eq]; omega
    have HE := Lib.hid he
    clear he
    go_wp2_with fail
    go_loopw [5] (fun i wr => ∃ k : Nat, k ≤ xs.length ∧ i = .int .i64 k ∧ xs.take k = ys.take k ∧ Below w.heap.size w wr) (fun i _ => xs.length - (intOf i).toNat)
    case atStart => exact ⟨0, Nat.zero_le _, rfl, rfl, Below.refl _ _⟩
    case round =>
      obtain ⟨k, hk, rfl, htk, hbl⟩ := hrel
      by_cases hlt : k < xs.length
      · have hlt2 : k < ys.length := by have := HE.out; omega
        obtain ⟨b, o, rfl, hb1, hc1⟩ := (ha.below hbl).at1 k hlt
        obtain ⟨b', o', rfl, hb2, hc2⟩ := (hb.below hbl).at1 k hlt2
        unfold IV at hc1 hc2
        rw [List.getElem?_map, List.getElem?_eq_getElem hlt] at hc1
        rw [List.getElem?_map, List.getElem?_eq_getElem hlt2] at hc2
        simp only [Option.map_some] at hc1 hc2
        have hts := take_succ_eq htk hlt hlt2
        generalize hx : xs[k] = x at hc1 hts
        generalize hy : ys[k] = y at hc2 hts
        have HX := Lib.hid hx
        have HY := Lib.hid hy
        have HT := Lib.hid htk
        have HS := Lib.hid hts
        clear hx hy htk hts
        have i1 : (0 : Int) ≤ (k : Int) := by omega
        have i2 : (k : Int) < (xs.length : Int) := by omega
        have i3 : (k : Int) < (ys.length : Int) := by omega
        go_upto_region 6 with fail
        go_quiet (fail)
        by_cases hxy : x = y
        · have e1 : (x != y) = false := by rw [hxy]; simp
          have HG := Lib.hid (HS.out.2 hxy)
          clear hxy
          go_wp2_with fail
          go_roundw
          case rel => exact ⟨k + 1, by omega, by go_num, HG.out, below_drewN hbl _⟩
          case measure => simp [intOf]; omega
        · have e1 : (x != y) = true := by simpa using hxy
          go_wp2_with fail
          go_ret
          refine ⟨?_, below_drewN hbl _⟩
          rw [decide_eq_false (by intro h; apply hxy; exact HS.out.1 (by rw [h]))]
          rfl
      · go_wp2_with fail
        go_ret
        rw [List.take_of_length_le (by omega), List.take_of_length_le (by have := HE.out; omega)] at htk
        exact ⟨by rw [decide_eq_true htk]; rfl, hbl⟩
  · have hne : ((xs.length : Int) != (ys.length : Int)) = true := by rw [bne_iff_ne]; omega
    go_wp2_with fail
    go_ret
    exact ⟨by rw [decide_eq_false (by intro h; subst h; exact he rfl)]; rfl, Below.refl _ _⟩
end Go.Proofs.Ytaeeflfhjmjpjaa
