/- CrcEnds3: from a sum one comes to nought by its own three bytes, and from no other one: the walk. -/
import Derived.Test.YtigclhcpdhldoaaLike
import Derived.Laws.BytesArg
import Derived.Laws.IdiomStrings
namespace Go.Proofs.Ytigclhcpdhldoaa
open Go.RowKit
set_option linter.unusedVariables false

/-- three bytes, made a text -/
theorem conv3 (W : World) (x y z : Int) : (convert 28 9 (.slice (some ⟨W.heap.size, 0, none⟩) 3 3)).run Try.prog (W.alloc (.cells #[.int .u8 x, .int .u8 y, .int .u8 z] 5)) =
    .ok (.string (strOfNums [x, y, z])) (W.alloc (.cells #[.int .u8 x, .int .u8 y, .int .u8 z] 5)) := by
  refine run_convert_bytes_arg _ 28 5 Try.underlying28 Try.underlying5 _ 0 3 3 [x, y, z] rfl ?_ 9 Try.underlying9
  intro i hi
  rw [Nat.zero_add, World.cell?_alloc_mark]
  match i, hi with
  | 0, _ => rfl
  | 1, _ => rfl
  | 2, _ => rfl

/-- the three bytes of a sum, as a text -/
def ownStr (X : Int) : ByteArray := strOfNums [X / 65536, X / 256 % 256, X % 256]

theorem byts_ofNat (n : Nat) : (UInt8.ofNat n).toBitVec = BitVec.ofNat 8 n := rfl
theorem ownStr_byts (c : BitVec 24) : byts (ownStr (c.toNat : Int)) = [(c >>> 16).setWidth 8, (c >>> 8).setWidth 8, c.setWidth 8] := by
  have hc := c.isLt
  unfold ownStr byts
  rw [strOfNums_data]
  simp only [List.map_cons, List.map_nil, byts_ofNat]
  congr 1
  · apply BitVec.eq_of_toNat_eq
    rw [BitVec.toNat_ofNat, BitVec.toNat_setWidth, BitVec.toNat_ushiftRight, Nat.shiftRight_eq_div_pow]
    omega
  congr 1
  · apply BitVec.eq_of_toNat_eq
    rw [BitVec.toNat_ofNat, BitVec.toNat_setWidth, BitVec.toNat_ushiftRight, Nat.shiftRight_eq_div_pow]
    omega
  congr 1
  · apply BitVec.eq_of_toNat_eq
    rw [BitVec.toNat_ofNat, BitVec.toNat_setWidth]
    omega
theorem ownStr_size (X : Int) : (ownStr X).size ≤ maxLen := by unfold ownStr; rw [strOfNums_size]; show 3 ≤ maxLen; decide

/-- what three bytes behind a state come to -/
theorem go_ownStr (x c : BitVec 24) : CrcP.go x (byts (ownStr (c.toNat : Int))) = CrcP.iter 24 (x ^^^ c) := by
  rw [ownStr_byts, CrcP.go_three_bytes, CrcP.three_own]

theorem ends3_core (a b X Y B : Int) (w : World) (hX : 0 ≤ X) (hX2 : X ≤ 16777215) (hY : 0 ≤ Y) (hY2 : Y ≤ 16777215) (hB : ((B == 0) == (X == Y)) = true)
    (c1 : Hid (∀ w, Calls Try.prog 14 #[.int .i64 a, .string ⟨#[]⟩] w fun e w' => e = .returned (.int .i64 X) ∧ w = w'))
    (c2 : Hid (∀ w, Calls Try.prog 14 #[.int .i64 b, .string ⟨#[]⟩] w fun e w' => e = .returned (.int .i64 Y) ∧ w = w'))
    (c3 : Hid (∀ w, Calls Try.prog 14 #[.int .i64 a, .string (ownStr X)] w fun e w' => e = .returned (.int .i64 0) ∧ w = w'))
    (c4 : Hid (∀ w, Calls Try.prog 14 #[.int .i64 b, .string (ownStr X)] w fun e w' => e = .returned (.int .i64 B) ∧ w = w')) :
    Calls Try.prog 10 #[.int .i64 a, .int .i64 b] w fun e w' => e = .returned (.bool true) ∧ Below w.heap.size w w' := by
  have HB := Lib.hid hB
  clear hB
  have hcv := conv3
  go_enter Try.func10, Try.ntmps10
  go_wp2_with fail
  refine (awake_any _).mono ?_; rintro e w' ⟨rfl, rfl⟩
  go_wp2_with fail
  refine (c1.out _).mono ?_; rintro e w' ⟨rfl, rfl⟩
  go_wp2_with fail
  refine (c2.out _).mono ?_; rintro e w' ⟨rfl, rfl⟩
  go_wp2_with fail
  refine (c3.out _).mono ?_; rintro e w' ⟨rfl, rfl⟩
  go_wp2_with fail
  refine (c4.out _).mono ?_; rintro e w' ⟨rfl, rfl⟩
  go_wp2
  go_ret
  refine ⟨by rw [← HB.out]; rfl, ?_⟩
  exact (Below.refl _ _).alloc (Nat.le_refl _) _

theorem beq_zero (x c : BitVec 24) : ((((CrcP.iter 24 (x ^^^ c)).toNat : Int) == 0) = decide (c = x)) := by
  by_cases h : c = x
  · subst h
    rw [BitVec.xor_self, CrcP.iter_zero]
    simp
  · rw [decide_eq_false h, beq_eq_false_iff_ne]
    intro he
    have h0 : CrcP.iter 24 (x ^^^ c) = 0#24 := BitVec.eq_of_toNat_eq (by rw [BitVec.toNat_zero]; omega)
    rw [CrcP.iter_eq_zero, CrcP.xor_eq_zero] at h0
    exact h h0.symm

theorem crcEnds3_walk (a b : Int) (w : World) (_ha : -9223372036854775808 ≤ a ∧ a ≤ 9223372036854775807) (_hb : -9223372036854775808 ≤ b ∧ b ≤ 9223372036854775807) :
    Calls Try.prog 10 #[.int .i64 a, .int .i64 b] w fun e w' => e = .returned (.bool true) ∧ Below w.heap.size w w' := by
  have h1 := (st a).isLt
  have h2 := (st b).isLt
  refine ends3_core a b ((st a).toNat : Int) ((st b).toNat : Int) ((CrcP.iter 24 (st b ^^^ st a)).toNat : Int) w (by omega) (by omega) (by omega) (by omega) ?_ (Lib.hid (go_nil_any a)) (Lib.hid (go_nil_any b)) (Lib.hid fun w => ?_) (Lib.hid fun w => ?_)
  · rw [beq_zero, beq_nat, beq_iff_eq]
  · have h := go_any a (ownStr ((st a).toNat : Int)) (ownStr_size _) w
    rw [go_ownStr, BitVec.xor_self, CrcP.iter_zero] at h
    exact h
  · have h := go_any b (ownStr ((st a).toNat : Int)) (ownStr_size _) w
    rw [go_ownStr] at h
    exact h

end Go.Proofs.Ytigclhcpdhldoaa
