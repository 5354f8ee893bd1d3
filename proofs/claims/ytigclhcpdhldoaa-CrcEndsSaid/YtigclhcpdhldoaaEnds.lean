/- CrcEnds: a text with its sum behind it has the sum 0, with any other three bytes it has not: the walk. -/
import Derived.Test.YtigclhcpdhldoaaEndsB
namespace Go.Proofs.Ytigclhcpdhldoaa
open Go.RowKit
set_option linter.unusedVariables false

theorem conv3b (W : World) (o : Obj) (x y z : Int) : (convert 28 9 (.slice (some ⟨W.heap.size + 1, 0, none⟩) 3 3)).run Try.prog ((W.alloc o).alloc (.cells #[.int .u8 x, .int .u8 y, .int .u8 z] 5)) =
    .ok (.string (strOfNums [x, y, z])) ((W.alloc o).alloc (.cells #[.int .u8 x, .int .u8 y, .int .u8 z] 5)) := by
  have h := conv3 (W.alloc o) x y z
  rw [World.size_alloc] at h
  exact h

theorem byts_three (a b c : Int) : byts (strOfNums [a, b, c]) = [BitVec.ofNat 8 a.toNat, BitVec.ofNat 8 b.toNat, BitVec.ofNat 8 c.toNat] := rfl

theorem toList_iff (s t : ByteArray) : (s.toList == t.toList) = decide (byts s = byts t) := by
  rw [Go.ByteArray.toList_eq, Go.ByteArray.toList_eq]
  by_cases h : byts s = byts t
  · rw [decide_eq_true h, beq_iff_eq]
    have h2 : ∀ l m : List UInt8, l.map UInt8.toBitVec = m.map UInt8.toBitVec → l = m := by
      intro l
      induction l with
      | nil => intro m hm; cases m with
        | nil => rfl
        | cons => simp at hm
      | cons x l ih => intro m hm; cases m with
        | nil => simp at hm
        | cons y m =>
          simp only [List.map_cons, List.cons.injEq] at hm
          rw [UInt8.eq_of_toBitVec_eq hm.1, ih m hm.2]
    exact h2 _ _ h
  · rw [decide_eq_false h, beq_eq_false_iff_ne]
    intro he
    exact h (by unfold byts; rw [he])

theorem ends_fact (S : BitVec 24) (a b c : Int) :
    ((((CrcP.go S (byts (strOfNums [a, b, c]))).toNat : Int) == 0) == ((strOfNums [a, b, c]).toList == (ownStr (S.toNat : Int)).toList)) = true := by
  rw [toList_iff, ownStr_byts, byts_three, CrcP.go_three_bytes, beq_zero, beq_iff_eq, decide_eq_decide]
  constructor
  · intro h
    have := CrcP.three_own S
    rw [← h] at this
    obtain ⟨e1, e2, e3⟩ := CrcP.three_inj _ _ _ _ _ _ this
    rw [← h, e1, e2, e3]
  · intro h
    simp only [List.cons.injEq, and_true] at h
    rw [h.1, h.2.1, h.2.2, CrcP.three_own]

theorem ends_core (s : ByteArray) (a b c X B : Int) (w : World) (hX : 0 ≤ X) (hX2 : X ≤ 16777215) (hs : s.size ≤ 140737488351232) (hB : ((B == 0) == ((strOfNums [a, b, c]).toList == (ownStr X).toList)) = true)
    (c1 : Hid (∀ w, Calls Try.prog 12 #[.string s] w fun e w' => e = .returned (.int .i64 X) ∧ w = w'))
    (c3 : Hid (∀ w, Calls Try.prog 12 #[.string (s ++ ownStr X)] w fun e w' => e = .returned (.int .i64 0) ∧ w = w'))
    (c4 : Hid (∀ w, Calls Try.prog 12 #[.string (s ++ strOfNums [a, b, c])] w fun e w' => e = .returned (.int .i64 B) ∧ w = w')) :
    Calls Try.prog 6 #[.string s, .int .u8 a, .int .u8 b, .int .u8 c] w fun e w' => e = .returned (.bool true) ∧ Below w.heap.size w w' := by
  have HB := Lib.hid hB
  clear hB
  have hcv := conv3
  have hcv2 := conv3b
  have hz1 : ∀ x y z : Int, (strOfNums [x, y, z]).size = 3 := fun x y z => by rw [strOfNums_size]; rfl
  go_enter Try.func6, Try.ntmps6
  go_wp2_with fail
  refine (awake_any _).mono ?_; rintro e w' ⟨rfl, rfl⟩
  go_wp2_with fail
  refine (c1.out _).mono ?_; rintro e w' ⟨rfl, rfl⟩
  go_wp2_with fail
  refine (c3.out _).mono ?_; rintro e w' ⟨rfl, rfl⟩
  go_wp2_with fail
  refine (c4.out _).mono ?_; rintro e w' ⟨rfl, rfl⟩
  go_wp2
  go_ret
  refine ⟨by rw [← HB.out]; rfl, ?_⟩
  exact ((Below.refl _ _).alloc (Nat.le_refl _) _).alloc (by simp) _

theorem crcEnds_walk (s : ByteArray) (a b c : Int) (w : World) (hs : s.size ≤ 140737488351232) (_ha : 0 ≤ a ∧ a ≤ 255) (_hb : 0 ≤ b ∧ b ≤ 255) (_hc : 0 ≤ c ∧ c ≤ 255) :
    Calls Try.prog 6 #[.string s, .int .u8 a, .int .u8 b, .int .u8 c] w fun e w' => e = .returned (.bool true) ∧ Below w.heap.size w w' := by
  have hS := (CrcP.go 11994318#24 (byts s)).isLt
  have hm : s.size ≤ maxLen := by unfold maxLen; omega
  have hz : ∀ x y z : Int, (s ++ strOfNums [x, y, z]).size ≤ maxLen := fun x y z => by
    rw [ByteArray.size_append, strOfNums_size]
    show s.size + 3 ≤ maxLen
    unfold maxLen
    omega
  refine ends_core s a b c _ _ w (by omega) (by omega) hs (ends_fact (CrcP.go 11994318#24 (byts s)) a b c) (Lib.hid (sum_any s hm)) (Lib.hid fun w => ?_) (Lib.hid fun w => ?_)
  · have h := sum_any (s ++ ownStr ((CrcP.go 11994318#24 (byts s)).toNat : Int)) (hz _ _ _) w
    rw [byts_append, CrcP.go_append, go_ownStr, BitVec.xor_self, CrcP.iter_zero] at h
    exact h
  · have h := sum_any (s ++ strOfNums [a, b, c]) (hz _ _ _) w
    rw [byts_append, CrcP.go_append] at h
    exact h

end Go.Proofs.Ytigclhcpdhldoaa
