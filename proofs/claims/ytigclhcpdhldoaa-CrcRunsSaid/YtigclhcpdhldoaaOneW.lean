/- CrcOne: texts that differ in one byte, or in two that follow one another, have unlike sums: the law's walk. -/
import Derived.Test.YtigclhcpdhldoaaOne
import Derived.Test.YtigclhcpdhldoaaPlainB
namespace Go.Proofs.Ytigclhcpdhldoaa
open Go.RowKit
set_option linter.unusedVariables false

/-- pick, for a count of at least one: some number below it -/
theorem pick_any (c : Int) (n : Nat) (hc : -9223372036854775808 ≤ c ∧ c ≤ 9223372036854775807) (hn : 0 < n) (hn2 : n ≤ 9223372036854775807) :
    ∃ k : Nat, k < n ∧ ∀ w, Calls Try.prog 16 #[.int .i64 c, .int .i64 (n : Int)] w fun e w' => e = .returned (.int .i64 (k : Int)) ∧ w = w' := by
  by_cases h : 0 ≤ c
  · have h1 : 0 ≤ c % (n : Int) := Int.emod_nonneg _ (by omega)
    have h2 : c % (n : Int) < n := Int.emod_lt_of_pos _ (by omega)
    refine ⟨(c % (n : Int)).toNat, by omega, fun w => ?_⟩
    rw [Int.toNat_of_nonneg h1]
    exact pick_pos c n h hc.2 (by omega) (by omega) w
  · have h1 : 0 ≤ (-(c + 1)) % (n : Int) := Int.emod_nonneg _ (by omega)
    have h2 : (-(c + 1)) % (n : Int) < n := Int.emod_lt_of_pos _ (by omega)
    refine ⟨((-(c + 1)) % (n : Int)).toNat, by omega, fun w => ?_⟩
    rw [Int.toNat_of_nonneg h1]
    exact pick_neg c n (by omega) hc.1 (by omega) (by omega) w

theorem byts_same (s : ByteArray) : byts s = BRow.byts s := rfl

theorem ofNat_zero (a : Int) (ha : 0 ≤ a ∧ a ≤ 255) : (BitVec.ofNat 8 a.toNat = 0#8) ↔ a = 0 := by
  constructor
  · intro h
    have := congrArg BitVec.toNat h
    rw [BitVec.toNat_ofNat, BitVec.toNat_zero] at this
    omega
  · rintro rfl
    rfl

theorem sum_beq (S : BitVec 24) (n : Nat) (f g : Nat → BitVec 8) (m : Nat → BitVec 8) (p : Bool) (h : ∀ j, j < n → g j = f j ^^^ m j) (hp : CrcP.go 0#24 ((List.range n).map m) = 0#24 ↔ p = true) :
    ((((CrcP.go S ((List.range n).map g)).toNat : Int) == ((CrcP.go S ((List.range n).map f)).toNat : Int)) == p) = true := by
  rw [beq_nat]
  have e := CrcP.go_mask S n f g m h
  rw [hp] at e
  cases p
  · rw [decide_eq_false (by simpa using e)]; rfl
  · rw [decide_eq_true (by simpa using e)]; rfl

/-- the sum of a text that a row of bytes has become -/
theorem sum_str (n : Nat) (g : Nat → Int) (hn : n ≤ maxLen) (w : World) : Calls Try.prog 12 #[.string (strOfNums ((List.range n).map g))] w fun e w' =>
    e = .returned (.int .i64 ((CrcP.go 11994318#24 ((List.range n).map fun j => BitVec.ofNat 8 (g j).toNat)).toNat : Int)) ∧ w = w' := by
  have h := sum_any (strOfNums ((List.range n).map g)) (by rw [BRow.str_size]; exact hn) w
  rw [byts_same, BRow.byts_str] at h
  exact h

theorem crcOne_walk (s : ByteArray) (at_ a b : Int) (w : World) (hs : s.size ≤ 140737488351232) (hat : -9223372036854775808 ≤ at_ ∧ at_ ≤ 9223372036854775807) (ha : 0 ≤ a ∧ a ≤ 255) (hb : 0 ≤ b ∧ b ≤ 255) :
    Calls Try.prog 8 #[.string s, .int .i64 at_, .int .u8 a, .int .u8 b] w fun e w' => e = .returned (.bool true) ∧ Below w.heap.size w w' := by
  by_cases h0 : s.size = 0
  · refine (one_empty s at_ a b w h0).mono ?_
    rintro e w' ⟨rfl, rfl⟩
    exact ⟨rfl, Below.refl _ _⟩
  obtain ⟨k, hk, hpick⟩ := pick_any at_ s.size hat (by omega) (by omega)
  obtain ⟨W, cap, hconv, hrow, hbel, _⟩ := BRow.made (P := Try.prog) w 9 28 5 s Try.underlying9 Try.underlying28 Try.underlying5
  have hm : s.size ≤ maxLen := by unfold maxLen; omega
  have hbk := BRow.byteAt_lt s k
  have hbk1 := BRow.byteAt_lt s (k + 1)
  obtain ⟨x1, _, _⟩ := BRow.xor_u8 (BRow.byteAt s k) a hbk ha
  have hsum : ∀ w, Calls Try.prog 12 #[.string s] w fun e w' => e = .returned (.int .i64 ((CrcP.go 11994318#24 ((List.range s.size).map fun j => BitVec.ofNat 8 (BRow.byteAt s j).toNat)).toNat : Int)) ∧ w = w' := fun w => by
    have h := sum_any s hm w
    rw [byts_same, BRow.byts_at] at h
    exact h
  by_cases h1 : k + 1 < s.size
  · obtain ⟨x2, _, _⟩ := BRow.xor_u8 (BRow.byteAt s (k + 1)) b hbk1 hb
    have hr2 := (hrow.set k hk (bits .xor .u8 (BRow.byteAt s k) a)).set (k + 1) h1 (bits .xor .u8 (BRow.byteAt s (k + 1)) b)
    have hbk2 := hr2.back (P := Try.prog) 28 5 9 cap Try.underlying28 Try.underlying5 Try.underlying9
    refine one_two s _ at_ a b _ _ k cap w W hs h1 ?_ hconv hbk2 (hrow k hk).1 (hrow (k + 1) h1).1 (hrow k hk).2 (hrow (k + 1) h1).2 hbel (Lib.hid hpick) (Lib.hid (sum_str _ _ hm)) (Lib.hid hsum)
    · refine sum_beq _ _ _ _ (CrcP.mask2 k (BitVec.ofNat 8 a.toNat) (BitVec.ofNat 8 b.toNat)) _ ?_ ?_
      · intro j hj
        unfold CrcP.mask2
        by_cases e1 : j = k + 1
        · subst e1; simp only [if_true]; rw [x2]
        · by_cases e2 : j = k
          · subst e2; simp only [e1, if_false, if_true]; rw [x1]
          · simp only [e1, e2, if_false]; rw [BitVec.xor_zero]
      · rw [CrcP.mask2_zero k s.size _ _ h1, ofNat_zero a ha, ofNat_zero b hb, Bool.and_eq_true, beq_iff_eq, beq_iff_eq]
  · have hk1 : k + 1 = s.size := by omega
    have hr1 := hrow.set k hk (bits .xor .u8 (BRow.byteAt s k) a)
    have hbk1 := hr1.back (P := Try.prog) 28 5 9 cap Try.underlying28 Try.underlying5 Try.underlying9
    refine one_last s _ at_ a b _ _ k cap w W hs hk1 ?_ hconv hbk1 (hrow k hk).1 (hrow k hk).2 hbel (Lib.hid hpick) (Lib.hid (sum_str _ _ hm)) (Lib.hid hsum)
    · refine sum_beq _ _ _ _ (CrcP.mask2 k (BitVec.ofNat 8 a.toNat) 0#8) _ ?_ ?_
      · intro j hj
        unfold CrcP.mask2
        have e1 : ¬ j = k + 1 := by omega
        by_cases e2 : j = k
        · subst e2; simp only [e1, if_false, if_true]; rw [x1]
        · simp only [e1, e2, if_false]; rw [BitVec.xor_zero]
      · rw [CrcP.mask1_zero k s.size _ hk1, ofNat_zero a ha, beq_iff_eq]
end Go.Proofs.Ytigclhcpdhldoaa
