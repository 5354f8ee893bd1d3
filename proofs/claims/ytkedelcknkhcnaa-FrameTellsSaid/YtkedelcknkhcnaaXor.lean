/- The walks of the reference's xor, Go and Sum. -/
import Derived.Test.YtkedelcknkhcnaaGo
namespace Go.Proofs.Ytkedelcknkhcnaa
open Go.RowKit

/-- after k rounds of the reference's xor -/
def XInv (A B k : Nat) (x y n u : Int) : Prop := x = ((A / 2 ^ k : Nat) : Int) ∧ y = ((B / 2 ^ k : Nat) : Int) ∧ u = ((2 ^ k : Nat) : Int) ∧ n = (((A ^^^ B) % 2 ^ k : Nat) : Int)

theorem XInv.start (A B : Nat) : XInv A B 0 (A : Int) (B : Int) 0 1 := ⟨by simp, by simp, by simp, by simp [Nat.mod_one]⟩

theorem XInv.bd {A B k : Nat} {x y n u : Int} (h : XInv A B k x y n u) (hA : A < 2 ^ 25) (hB : B < 2 ^ 25) (hk : k ≤ 25) :
    0 ≤ x ∧ x ≤ 33554431 ∧ 0 ≤ y ∧ y ≤ 33554431 ∧ 0 ≤ n ∧ n ≤ 33554431 ∧ 0 ≤ u ∧ u ≤ 33554432 := by
  obtain ⟨rfl, rfl, rfl, rfl⟩ := h
  have h1 : A / 2 ^ k ≤ A := Nat.div_le_self _ _
  have h2 : B / 2 ^ k ≤ B := Nat.div_le_self _ _
  have h3 : 2 ^ k ≤ 2 ^ 25 := Nat.pow_le_pow_right (by omega) hk
  have h4 : (A ^^^ B) % 2 ^ k ≤ A ^^^ B := Nat.mod_le _ _
  have h5 : A ^^^ B < 2 ^ 25 := Nat.xor_lt_two_pow hA hB
  generalize A / 2 ^ k = q1 at *
  generalize B / 2 ^ k = q2 at *
  generalize (A ^^^ B) % 2 ^ k = q3 at *
  generalize 2 ^ k = q4 at *
  omega

theorem mod_next (m k : Nat) : m % 2 ^ (k + 1) = m % 2 ^ k + 2 ^ k * (m / 2 ^ k % 2) := by
  rw [Nat.pow_succ, Nat.mod_mul]
theorem xor_div (A B k : Nat) : (A ^^^ B) / 2 ^ k % 2 = if A / 2 ^ k % 2 = B / 2 ^ k % 2 then 0 else 1 := by
  have e : ∀ m, m / 2 ^ k % 2 = (m.testBit k).toNat := fun m => by
    rw [Nat.testBit_eq_decide_div_mod_eq]
    have : m / 2 ^ k % 2 = 0 ∨ m / 2 ^ k % 2 = 1 := by omega
    rcases this with h | h <;> rw [h] <;> rfl
  rw [e, e, e, Nat.testBit_xor]
  cases A.testBit k <;> cases B.testBit k <;> rfl

theorem XInv.same {A B k : Nat} {x y n u : Int} (h : XInv A B k x y n u) (he : x % 2 = y % 2) : XInv A B (k + 1) (x / 2) (y / 2) n (2 * u) := by
  obtain ⟨rfl, rfl, rfl, rfl⟩ := h
  have hd := xor_div A B k
  rw [if_pos (by omega)] at hd
  refine ⟨?_, ?_, ?_, ?_⟩
  · rw [Nat.pow_succ, ← Nat.div_div_eq_div_mul]; omega
  · rw [Nat.pow_succ, ← Nat.div_div_eq_div_mul]; omega
  · rw [Nat.pow_succ]; omega
  · rw [mod_next, hd]; omega
theorem XInv.other {A B k : Nat} {x y n u : Int} (h : XInv A B k x y n u) (he : ¬ x % 2 = y % 2) : XInv A B (k + 1) (x / 2) (y / 2) (n + u) (2 * u) := by
  obtain ⟨rfl, rfl, rfl, rfl⟩ := h
  have hd := xor_div A B k
  rw [if_neg (by omega)] at hd
  refine ⟨?_, ?_, ?_, ?_⟩
  · rw [Nat.pow_succ, ← Nat.div_div_eq_div_mul]; omega
  · rw [Nat.pow_succ, ← Nat.div_div_eq_div_mul]; omega
  · rw [Nat.pow_succ]; omega
  · rw [mod_next, hd]; omega

set_option maxHeartbeats 400000 in
theorem xor_int (A B : Nat) (a b : Int) (ha : Hid (a = (A : Int))) (hb : Hid (b = (B : Int))) (hA : A < 2 ^ 25) (hB : B < 2 ^ 25) (w : World) :
    Calls Try.prog 22 #[.int .i64 a, .int .i64 b] w fun e w' => e = .returned (.int .i64 ((A ^^^ B : Nat) : Int)) ∧ w = w' := by
  have HA := Lib.hid hA
  have HB := Lib.hid hB
  clear hA hB
  have h0 : XInv A B 0 a b 0 1 := by rw [ha.out, hb.out]; exact XInv.start A B
  clear ha hb
  go_enter Try.func22, Try.ntmps22
  go_wp2
  go_loop [0, 1, 5, 6, 7] (fun x y n u i => ∃ (k : Nat) (X Y N U : Int), k ≤ 25 ∧ i = .int .i64 k ∧ x = .int .i64 X ∧ y = .int .i64 Y ∧ n = .int .i64 N ∧ u = .int .i64 U ∧ XInv A B k X Y N U) (fun _ _ _ _ i => 25 - (intOf i).toNat)
  case atStart => exact ⟨0, _, _, _, _, by omega, rfl, rfl, rfl, rfl, rfl, h0⟩
  case round =>
    obtain ⟨k, X, Y, N, U, hk, rfl, rfl, rfl, rfl, rfl, hI⟩ := hrel
    obtain ⟨b1, b2, b3, b4, b5, b6, b7, b8⟩ := hI.bd HA.out HB.out hk
    by_cases hlt : k < 25
    · by_cases he : X % 2 = Y % 2
      · have hs := hI.same he
        have e1 : (X % 2 != Y % 2) = false := by rw [he]; simp
        clear he
        go_wp2
        go_round
        case rel => exact ⟨k + 1, _, _, _, _, by omega, by go_num, rfl, rfl, rfl, rfl, hs⟩
        case measure => simp [intOf]; omega
      · have hs := hI.other he
        have e1 : (X % 2 != Y % 2) = true := by simpa using he
        clear he
        go_wp2
        go_round
        case rel => exact ⟨k + 1, _, _, _, _, by omega, by go_num, rfl, rfl, rfl, rfl, hs⟩
        case measure => simp [intOf]; omega
    · obtain rfl : k = 25 := by omega
      obtain ⟨_, _, _, hN⟩ := hI
      rw [Nat.mod_eq_of_lt (Nat.xor_lt_two_pow HA.out HB.out)] at hN
      have HN := Lib.hid hN
      clear hN
      go_wp2
      go_ret
      exact ⟨by rw [← HN.out]; rfl, rfl⟩
theorem xor_bv (a b : BitVec 25) (w : World) :
    Calls Try.prog 22 #[.int .i64 (a.toNat : Int), .int .i64 (b.toNat : Int)] w fun e w' => e = .returned (.int .i64 ((a ^^^ b).toNat : Int)) ∧ w = w' := by
  rw [BitVec.toNat_xor]
  exact xor_int a.toNat b.toNat _ _ rfl rfl a.isLt b.isLt w

/-- the inner loop of the reference's Go, and its first line, as numbers -/
theorem rem_st (n : Int) : (n.tmod 16777216 + 16777216) % 16777216 = ((st n).toNat : Int) := by
  unfold st
  rw [BitVec.toNat_ofInt]
  have := @Int.tmod_eq_emod n 16777216
  rw [this]
  split <;> omega

theorem xorI (A B : Nat) (a b C : Int) (ha : a = (A : Int)) (hb : b = (B : Int)) (hc : C = ((A ^^^ B : Nat) : Int)) (hA : A < 2 ^ 25) (hB : B < 2 ^ 25) (w : World) :
    Calls Try.prog 22 #[.int .i64 a, .int .i64 b] w fun e w' => e = .returned (.int .i64 C) ∧ w = w' := by
  rw [hc]
  exact xor_int A B a b ha hb hA hB w

/-- a fold by the reference's xor -/
theorem xor_fold (y : Int) (hy : Small y) (h : 16777216 ≤ 2 * y) (w : World) :
    Calls Try.prog 22 #[.int .i64 (2 * y), .int .i64 25578747] w fun e w' => e = .returned (.int .i64 (zstep y)) ∧ w = w' := by
  obtain ⟨c, rfl⟩ := hy
  have hc := c.isLt
  refine xorI (2 * c.toNat) 25578747 _ _ _ (by omega) rfl ?_ (by omega) (by decide) w
  rw [zstep_bv, CrcP.bstep_toNat, if_pos (by omega)]

theorem xor_top (c : BitVec 24) (b : UInt8) (w : World) :
    Calls Try.prog 22 #[.int .i64 (c.toNat : Int), .int .i64 ((b.toNat : Int) * 65536)] w fun e w' => e = .returned (.int .i64 ((c ^^^ CrcP.top b.toBitVec).toNat : Int)) ∧ w = w' := by
  have hc := c.isLt
  have hb := b.toNat_lt
  refine xorI c.toNat (b.toNat * 65536) _ _ _ rfl (by omega) ?_ (by omega) (by omega) w
  rw [BitVec.toNat_xor, CrcP.top_toNat]
  rfl

theorem ziter_small (k : Nat) {y : Int} (h : Small y) : Small (ziter k y) := by
  obtain ⟨c, rfl⟩ := h
  exact ⟨_, ziter_bv k c⟩
theorem ziter_out (k : Nat) (y : Int) : ziter (k + 1) y = zstep (ziter k y) := by
  induction k generalizing y with
  | zero => rfl
  | succ k ih => rw [ziter, ih (zstep y)]; rfl

set_option maxHeartbeats 800000 in
theorem refGo_any (n : Int) (s : ByteArray) (hn : -9223372036854775808 ≤ n ∧ n ≤ 9223372036854775807) (hs : s.size ≤ maxLen) (w : World) :
    Calls Try.prog 20 #[.int .i64 n, .string s] w fun e w' => e = .returned (.int .i64 ((CrcP.go (st n) (byts s)).toNat : Int)) ∧ w = w' := by
  unfold maxLen at hs
  have Hr := Lib.hid (rem_st n)
  have hm1 : -16777216 < n.tmod 16777216 := by have := @Int.tmod_eq_emod n 16777216; rw [this]; split <;> omega
  have hm2 : n.tmod 16777216 < 16777216 := by have := @Int.tmod_eq_emod n 16777216; rw [this]; split <;> omega
  go_enter Try.func20, Try.ntmps20
  go_wp2
  rw [Hr.out]
  clear hm1 hm2
  go_loop [5, 6, 7] (fun x i _ => ∃ k : Nat, k ≤ s.size ∧ i = .int .i64 k ∧ x = .int .i64 ((CrcP.go (st n) ((byts s).take k)).toNat : Int)) (fun _ i _ => s.size - (intOf i).toNat)
  case atStart => exact ⟨0, Nat.zero_le _, rfl, rfl⟩
  case round =>
    obtain ⟨k, hk, rfl, rfl⟩ := hrel
    by_cases hlt : k < s.size
    · have Hs := Lib.hid (byts_snoc s k hlt)
      have hb0 : (s[k].toNat : Int) ≤ 255 := by have := s[k].toNat_lt; omega
      generalize hc : CrcP.go (st n) ((byts s).take k) = c
      have Hc := Lib.hid hc
      clear hc
      have hy0 : Small ((c ^^^ CrcP.top s[k].toBitVec).toNat : Int) := ⟨_, rfl⟩
      have Hz := Lib.hid (ziter_bv 8 (c ^^^ CrcP.top s[k].toBitVec))
      have cx : ∀ w, Calls Try.prog 22 _ w _ := fun w => xor_top c s[k] w
      generalize ((c ^^^ CrcP.top s[k].toBitVec).toNat : Int) = Y at hy0 Hz cx
      have Cx := Lib.hid cx
      clear cx
      go_wp2_with (go_at_call 22; refine (Cx.out _).mono ?_; rintro e w' ⟨rfl, rfl⟩)
      go_loop [5, 7] (fun x i => ∃ j : Nat, j ≤ 8 ∧ i = .int .i64 j ∧ x = .int .i64 (ziter j Y)) (fun _ i => 8 - (intOf i).toNat)
      case atStart => exact ⟨0, by omega, rfl, rfl⟩
      case round =>
        obtain ⟨j, hj, rfl, rfl⟩ := hrel
        have hys := ziter_small j hy0
        have Ho := Lib.hid (ziter_out j Y)
        generalize hy : ziter j Y = y at hys Ho ⊢
        have Hy := Lib.hid hy
        clear hy
        obtain ⟨b1, b2⟩ := hys.bd
        by_cases hjl : j < 8
        · by_cases hf : 16777216 ≤ 2 * y
          · go_wp2_with (go_at_call 22; refine (xor_fold y hys hf _).mono ?_; rintro e w' ⟨rfl, rfl⟩)
            go_round
            case rel => exact ⟨j + 1, by omega, by go_num, by rw [Ho.out]⟩
            case measure => simp [intOf]; omega
          · go_wp2
            go_round
            case rel => exact ⟨j + 1, by omega, by go_num, by rw [Ho.out, ← zno y (by omega), Int.mul_comm]⟩
            case measure => simp [intOf]; omega
        · obtain rfl : j = 8 := by omega
          go_wp2
          go_round
          case rel => exact ⟨k + 1, by omega, by go_num, by rw [Hs.out, CrcP.go_snoc, Hc.out, ← Hy.out]; exact congrArg _ Hz.out⟩
          case measure => simp [intOf]; omega
    · go_wp2
      go_ret
      exact ⟨by rw [List.take_of_length_le (by rw [byts_length]; omega)]; rfl, rfl⟩

theorem refSum_any (s : ByteArray) (hs : s.size ≤ maxLen) (w : World) :
    Calls Try.prog 18 #[.string s] w fun e w' => e = .returned (.int .i64 ((CrcP.go 11994318#24 (byts s)).toNat : Int)) ∧ w = w' := by
  go_enter Try.func18, Try.ntmps18
  go_wp2_with (go_at_call 20; refine (refGo_any _ _ (by omega) hs _).mono ?_; rintro e w' ⟨rfl, rfl⟩)
  go_ret
  exact ⟨rfl, rfl⟩

end Go.Proofs.Ytkedelcknkhcnaa
