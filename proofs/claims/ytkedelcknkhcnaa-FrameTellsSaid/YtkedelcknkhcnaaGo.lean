/- The walks of crc.Go, crc.Sum, pick, awake: each computes its plain function. -/
import Derived.Test.YtkedelcknkhcnaaStep
namespace Go.Proofs.Ytkedelcknkhcnaa
open Go.RowKit

/-- a string's bytes -/
def byts (s : ByteArray) : List (BitVec 8) := s.data.toList.map UInt8.toBitVec
/-- a number as the state of the sum -/
def st (n : Int) : BitVec 24 := BitVec.ofInt 24 n

theorem and_st (n : Int) : bits .and .i64 n 16777215 = ((st n).toNat : Int) := by
  show IntKind.i64.wrap ((BitVec.ofInt 64 n &&& BitVec.ofInt 64 16777215).toNat : Int) = _
  have e : (BitVec.ofInt 64 n &&& BitVec.ofInt 64 16777215).toNat = (st n).toNat := by
    rw [BitVec.toNat_and, show (BitVec.ofInt 64 16777215).toNat = 2 ^ 24 - 1 from by decide, Nat.and_two_pow_sub_one_eq_mod]
    unfold st
    rw [BitVec.toNat_ofInt, BitVec.toNat_ofInt]
    omega
  rw [e, IntKind.wrap_i64]
  have := (st n).isLt
  omega

theorem st_nat (c : BitVec 24) : st (c.toNat : Int) = c := by
  unfold st
  rw [BitVec.ofInt_natCast, BitVec.ofNat_toNat, BitVec.setWidth_eq]

theorem byts_snoc (s : ByteArray) (k : Nat) (h : k < s.size) : (byts s).take (k + 1) = (byts s).take k ++ [s[k].toBitVec] := by
  unfold byts
  rw [← List.map_take, ← List.map_take, List.take_succ_eq_append_getElem (by simpa using h), List.map_append]
  rfl
theorem byts_length (s : ByteArray) : (byts s).length = s.size := by
  unfold byts
  rw [List.length_map, Array.length_toList]
  rfl
theorem byts_append (s t : ByteArray) : byts (s ++ t) = byts s ++ byts t := by
  unfold byts
  rw [ByteArray.data_append, Array.toList_append, List.map_append]

set_option maxHeartbeats 400000 in
theorem go_any (n : Int) (s : ByteArray) (hs : s.size ≤ maxLen) (w : World) :
    Calls Try.prog 21 #[.int .i64 n, .string s] w fun e w' => e = .returned (.int .i64 ((CrcP.go (st n) (byts s)).toNat : Int)) ∧ w = w' := by
  unfold maxLen at hs
  have ha := and_st n
  go_enter Try.func21, Try.ntmps21
  go_wp2
  clear ha
  go_loop [0, 5, 10] (fun x _ i => ∃ k : Nat, k ≤ s.size ∧ i = .int .i64 k ∧ x = .int .i64 ((CrcP.go (st n) ((byts s).take k)).toNat : Int)) (fun _ _ i => s.size - (intOf i).toNat)
  case atStart => exact ⟨0, Nat.zero_le _, rfl, rfl⟩
  case round =>
    obtain ⟨k, hk, rfl, rfl⟩ := hrel
    by_cases hlt : k < s.size
    · have Hs := Lib.hid (byts_snoc s k hlt)
      go_wp2_with (go_at_call 23; refine (step_any _ _ _).mono ?_; rintro e w' ⟨rfl, rfl⟩)
      go_round
      case rel => exact ⟨k + 1, by omega, by go_num, by rw [Hs.out, CrcP.go_snoc]⟩
      case measure => simp [intOf]; omega
    · go_wp2
      go_ret
      exact ⟨by rw [List.take_of_length_le (by rw [byts_length]; omega)]; rfl, rfl⟩

theorem sum_any (s : ByteArray) (hs : s.size ≤ maxLen) (w : World) :
    Calls Try.prog 19 #[.string s] w fun e w' => e = .returned (.int .i64 ((CrcP.go 11994318#24 (byts s)).toNat : Int)) ∧ w = w' := by
  go_enter Try.func19, Try.ntmps19
  go_wp2_with (go_at_call 21; refine (go_any _ _ hs _).mono ?_; rintro e w' ⟨rfl, rfl⟩)
  go_ret
  exact ⟨rfl, rfl⟩

theorem pick_pos (c n : Int) (hc : 0 ≤ c) (hc2 : c ≤ 9223372036854775807) (hn : 0 < n) (hn2 : n ≤ 9223372036854775807) (w : World) :
    Calls Try.prog 15 #[.int .i64 c, .int .i64 n] w fun e w' => e = .returned (.int .i64 (c % n)) ∧ w = w' := by
  go_enter Try.func15, Try.ntmps15
  go_wp2
  go_ret
  exact ⟨rfl, rfl⟩
theorem pick_neg (c n : Int) (hc : c < 0) (hc2 : -9223372036854775808 ≤ c) (hn : 0 < n) (hn2 : n ≤ 9223372036854775807) (w : World) :
    Calls Try.prog 15 #[.int .i64 c, .int .i64 n] w fun e w' => e = .returned (.int .i64 ((-(c + 1)) % n)) ∧ w = w' := by
  go_enter Try.func15, Try.ntmps15
  have e : -(c + 1).tmod n = (-(c + 1)) % n := by
    rw [← Int.neg_tmod, Int.tmod_eq_emod_of_nonneg (by omega)]
  have E := Lib.hid e
  clear e
  go_wp2
  go_ret
  exact ⟨by rw [← E.out]; rfl, rfl⟩
end Go.Proofs.Ytkedelcknkhcnaa
