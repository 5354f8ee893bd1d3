/- The walks of Counts, Same, pick, counts' fellow, New. -/
import Derived.Test.YtmpkcmgdamfaaaaEv
namespace Go.Proofs.Ytmpkcmgdamfaaaa
open Go.RowKit SlRd
set_option linter.unusedVariables false

set_option maxHeartbeats 800000 in
theorem refCounts_any (x : Ev) (w : World) : Calls Try.prog 23 #[x.v] w fun e w' => e = .returned (.bool (cnt x)) ∧ Below w.heap.size w w' := by
  obtain ⟨p, b, en, ⟨k, at_, od⟩, er, da⟩ := x
  obtain ⟨r, hr⟩ : ∃ r, r = cnt ⟨p, b, en, ⟨k, at_, od⟩, er, da⟩ := ⟨_, rfl⟩
  have HR := Lib.hid hr
  rw [← hr]
  clear hr
  go_enter Try.func23, Try.ntmps23
  by_cases h1 : k = 1
  · subst h1
    cases h2 : (en != 0)
    all_goals
      go_wp2_with fail
      go_ret
      refine ⟨?_, (Below.refl _ _).alloc (Nat.le_refl _) _⟩
      rw [HR.out]
      simp [cnt, h2]
  · have e1 : (k == 1) = false := by simpa using h1
    by_cases h2 : k = 2
    · subst h2
      cases h3 : (en == 0)
      · cases h4 : (er == 0)
        all_goals
          go_wp2_with fail
          go_ret
          refine ⟨?_, (Below.refl _ _).alloc (Nat.le_refl _) _⟩
          rw [HR.out]
          simp [cnt, h3, h4]
      · go_wp2_with fail
        go_ret
        refine ⟨?_, (Below.refl _ _).alloc (Nat.le_refl _) _⟩
        rw [HR.out]
        simp [cnt, h3]
    · have e2 : (k == 2) = false := by simpa using h2
      go_wp2_with fail
      go_ret
      refine ⟨?_, (Below.refl _ _).alloc (Nat.le_refl _) _⟩
      rw [HR.out]
      simp [cnt, h1, e2]

theorem take_succ_eq {α : Type} {xs ys : List α} {k : Nat} (h : xs.take k = ys.take k) (h1 : k < xs.length) (h2 : k < ys.length) : (xs.take (k + 1) = ys.take (k + 1)) ↔ xs[k] = ys[k] := by
  rw [List.take_succ_eq_append_getElem h1, List.take_succ_eq_append_getElem h2, h]
  constructor
  · intro e
    have := List.append_cancel_left e
    simpa using this
  · intro e
    rw [e]
theorem below_drewN {B : Nat} {a w : World} (h : Below B a w) (n : Nat) : Below B a (w.drewN n) := ⟨h.os, h.tape, h.output, h.size, h.block⟩
theorem below_then {w w1 w2 : World} (h1 : Below w.heap.size w w1) (h2 : Below w1.heap.size w1 w2) : Below w.heap.size w w2 := h1.trans (h2.mono h1.size)

set_option maxRecDepth 100000 in
set_option maxHeartbeats 800000 in
theorem same_any (xs ys : List Ev) (va vb : Value) (w : World) (ha : Rd w 8 va xs.length (xs.flatMap Ev.cs)) (hb : Rd w 8 vb ys.length (ys.flatMap Ev.cs)) (hl1 : xs.length ≤ 140737488351232) (hl2 : ys.length ≤ 140737488351232) :
    Calls Try.prog 16 #[va, vb] w fun e w' => e = .returned (.bool (decide (xs = ys))) ∧ Below w.heap.size w w' := by
  obtain ⟨a1, c1, rfl⟩ : ∃ a c, va = .slice a xs.length c := by obtain ⟨_, a, c, rfl, _⟩ := ha; exact ⟨_, _, rfl⟩
  obtain ⟨a2, c2, rfl⟩ : ∃ a c, vb = .slice a ys.length c := by obtain ⟨_, a, c, rfl, _⟩ := hb; exact ⟨_, _, rfl⟩
  go_enter Try.func16, Try.ntmps16
  by_cases he : xs.length = ys.length
  · have hne : ((xs.length : Int) != (ys.length : Int)) = false := by rw [bne_eq_false_iff_eq]; omega
    have HE := Lib.hid he
    clear he
    go_wp2_with fail
    go_loopw [5] (fun i wr => ∃ k : Nat, k ≤ xs.length ∧ i = .int .i64 k ∧ xs.take k = ys.take k ∧ Below w.heap.size w wr) (fun i _ => xs.length - (intOf i).toNat)
    case atStart => exact ⟨0, Nat.zero_le _, rfl, rfl, Below.refl _ _⟩
    case round =>
      obtain ⟨k, hk, rfl, htk, hbl⟩ := hrel
      by_cases hlt : k < xs.length
      · have hlt2 : k < ys.length := by have := HE.out; omega
        obtain ⟨b, o, rfl, hb1, hc1⟩ := Rd.atk Ev.cs (fun _ => rfl) (ha.below hbl) rfl k hlt
        obtain ⟨b', o', rfl, hb2, hc2⟩ := Rd.atk Ev.cs (fun _ => rfl) (hb.below hbl) rfl k hlt2
        have hts := take_succ_eq htk hlt hlt2
        generalize xs[k] = x at hc1 hts
        generalize ys[k] = y at hc2 hts
        have HT := Lib.hid htk
        have HS := Lib.hid hts
        have p0 := hc1 0 (by omega); have p1 := hc1 1 (by omega); have p2 := hc1 2 (by omega); have p3 := hc1 3 (by omega); have p4 := hc1 4 (by omega)
        have p5 := hc1 5 (by omega); have p6 := hc1 6 (by omega); have p7 := hc1 7 (by omega)
        have q0 := hc2 0 (by omega); have q1 := hc2 1 (by omega); have q2 := hc2 2 (by omega); have q3 := hc2 3 (by omega); have q4 := hc2 4 (by omega)
        have q5 := hc2 5 (by omega); have q6 := hc2 6 (by omega); have q7 := hc2 7 (by omega)
        simp only [Ev.cs, List.getElem?_cons_zero, List.getElem?_cons_succ, Nat.add_zero] at p0 p1 p2 p3 p4 p5 p6 p7 q0 q1 q2 q3 q4 q5 q6 q7
        have heq := fun W => eqEv W x y
        simp only [Ev.v] at heq
        clear htk hts hc1 hc2 ha hb
        have i1 : (0 : Int) ≤ (k : Int) := by omega
        have i2 : (k : Int) < (xs.length : Int) := by omega
        have i3 : (k : Int) < (ys.length : Int) := by omega
        go_upto_region 6 with fail
        go_quiet (fail)
        by_cases hxy : x = y
        · have HG := Lib.hid (HS.out.2 hxy)
          rw [decide_eq_true hxy]
          clear hxy
          go_wp2_with fail
          go_roundw
          case rel => exact ⟨k + 1, by omega, by go_num, HG.out, below_drewN hbl _⟩
          case measure => simp [intOf]; omega
        · rw [decide_eq_false hxy]
          go_wp2_with fail
          go_ret
          refine ⟨?_, below_drewN hbl _⟩
          rw [decide_eq_false (by intro h; apply hxy; exact HS.out.1 (by rw [h]))]
          rfl
      · go_wp2_with fail
        go_ret
        rw [List.take_of_length_le (by omega), List.take_of_length_le (by have := HE.out; omega)] at htk
        exact ⟨by rw [decide_eq_true htk]; rfl, hbl⟩
  · have hne : ((xs.length : Int) != (ys.length : Int)) = true := by rw [bne_iff_ne]; omega
    go_wp2_with fail
    go_ret
    exact ⟨by rw [decide_eq_false (by intro h; subst h; exact he rfl)]; rfl, Below.refl _ _⟩

theorem pick_pos (c n : Int) (hc : 0 ≤ c) (hc2 : c ≤ 9223372036854775807) (hn : 0 < n) (hn2 : n ≤ 9223372036854775807) (w : World) :
    Calls Try.prog 9 #[.int .i64 c, .int .i64 n] w fun e w' => e = .returned (.int .i64 (c % n)) ∧ w = w' := by
  go_enter Try.func9, Try.ntmps9
  go_wp2
  go_ret
  exact ⟨rfl, rfl⟩
theorem pick_neg (c n : Int) (hc : c < 0) (hc2 : -9223372036854775808 ≤ c) (hn : 0 < n) (hn2 : n ≤ 9223372036854775807) (w : World) :
    Calls Try.prog 9 #[.int .i64 c, .int .i64 n] w fun e w' => e = .returned (.int .i64 ((-(c + 1)) % n)) ∧ w = w' := by
  go_enter Try.func9, Try.ntmps9
  have e : -(c + 1).tmod n = (-(c + 1)) % n := by
    rw [← Int.neg_tmod, Int.tmod_eq_emod_of_nonneg (by omega)]
  have E := Lib.hid e
  clear e
  go_wp2
  go_ret
  exact ⟨by rw [← E.out]; rfl, rfl⟩
/-- which of n things a raw number speaks of -/
def pk (c n : Int) : Int := if 0 ≤ c then c % n else (-(c + 1)) % n
theorem pk_bd (c n : Int) (hn : 0 < n) : 0 ≤ pk c n ∧ pk c n < n := by
  unfold pk
  split
  · exact ⟨Int.emod_nonneg _ (by omega), Int.emod_lt_of_pos _ hn⟩
  · exact ⟨Int.emod_nonneg _ (by omega), Int.emod_lt_of_pos _ hn⟩
theorem pick_any (c n : Int) (hc : -9223372036854775808 ≤ c ∧ c ≤ 9223372036854775807) (hn : 0 < n) (hn2 : n ≤ 9223372036854775807) (w : World) :
    Calls Try.prog 9 #[.int .i64 c, .int .i64 n] w fun e w' => e = .returned (.int .i64 (pk c n)) ∧ w = w' := by
  unfold pk
  split
  · exact pick_pos c n (by assumption) hc.2 hn hn2 w
  · exact pick_neg c n (by omega) hc.1 hn hn2 w
end Go.Proofs.Ytmpkcmgdamfaaaa
