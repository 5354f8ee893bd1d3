/- The walks of crc.step, crc.Go, crc.Sum, pick: each computes its plain function. -/
import Derived.Test.YtkedelcknkhcnaaProg
import Derived.Test.YtkedelcknkhcnaaPlain
import Derived.WalkKit
import Derived.WalkSpells
import Derived.WalkLawsBesides
import Derived.WalkMore
import Derived.ScopeJumps
import Derived.Outline
import Derived.Lib.Hide
namespace Go.Proofs.Ytkedelcknkhcnaa
open Go.RowKit

theorem ofInt_i64 (a : Nat) (ha : a < 9223372036854775808) : (BitVec.ofInt 64 (a : Int)).toNat = a := by
  rw [BitVec.ofInt_natCast, BitVec.toNat_ofNat]; exact Nat.mod_eq_of_lt (by omega)
theorem i64_xor_nat (a b : Nat) (ha : a < 9223372036854775808) (hb : b < 9223372036854775808) : bits .xor .i64 (a : Int) (b : Int) = ((a ^^^ b : Nat) : Int) := by
  have hx : a ^^^ b < 2 ^ 63 := Nat.xor_lt_two_pow (by omega) (by omega)
  show IntKind.i64.wrap ((BitVec.ofInt 64 (a : Int) ^^^ BitVec.ofInt 64 (b : Int)).toNat : Int) = _
  rw [BitVec.toNat_xor, ofInt_i64 a ha, ofInt_i64 b hb, IntKind.wrap_i64]
  omega
theorem i64_and_nat (a b : Nat) (ha : a < 9223372036854775808) (hb : b < 9223372036854775808) : bits .and .i64 (a : Int) (b : Int) = ((a &&& b : Nat) : Int) := by
  have hx : a &&& b < 2 ^ 63 := Nat.and_lt_two_pow _ (by omega)
  show IntKind.i64.wrap ((BitVec.ofInt 64 (a : Int) &&& BitVec.ofInt 64 (b : Int)).toNat : Int) = _
  rw [BitVec.toNat_and, ofInt_i64 a ha, ofInt_i64 b hb, IntKind.wrap_i64]
  omega

/-- the step on numbers -/
def zstep (y : Int) : Int := if 16777216 ≤ y * 2 then bits .xor .i64 (y * 2) 25578747 else y * 2
def ziter : Nat → Int → Int
  | 0, n => n
  | k + 1, n => ziter k (zstep n)
def Small (y : Int) : Prop := ∃ c : BitVec 24, y = (c.toNat : Int)
theorem Small.bd {y : Int} (h : Small y) : 0 ≤ y ∧ y ≤ 16777215 := by
  obtain ⟨c, rfl⟩ := h
  have := c.isLt
  omega

theorem zstep_bv (c : BitVec 24) : zstep (c.toNat : Int) = ((CrcP.bstep c).toNat : Int) := by
  have hc := c.isLt
  unfold zstep
  rw [CrcP.bstep_toNat]
  by_cases h : 16777216 ≤ 2 * c.toNat
  · rw [if_pos (by omega), if_pos h, show ((c.toNat : Int) * 2) = ((2 * c.toNat : Nat) : Int) from by omega]
    exact i64_xor_nat (2 * c.toNat) 25578747 (by omega) (by decide)
  · rw [if_neg (by omega), if_neg h]; omega
theorem zstep_small {y : Int} (h : Small y) : Small (zstep y) := by
  obtain ⟨c, rfl⟩ := h
  exact ⟨_, zstep_bv c⟩
theorem iter_in (k : Nat) (c : BitVec 24) : CrcP.iter k (CrcP.bstep c) = CrcP.bstep (CrcP.iter k c) := by
  induction k with
  | zero => rfl
  | succ k ih => simp only [CrcP.iter, ih]
theorem ziter_bv (k : Nat) (c : BitVec 24) : ziter k (c.toNat : Int) = ((CrcP.iter k c).toNat : Int) := by
  induction k generalizing c with
  | zero => rfl
  | succ k ih => simp only [ziter, CrcP.iter]; rw [zstep_bv, ih, iter_in]

def JJ (x : Int) (a : Act) : Prop :=
  ∃ (m : Nat) (y : Int) (u1 u2 u3 u4 u6 u7 u8 u9 u10 u11 u12 u13 u14 u15 u16 u17 u18 u19 u20 u21 : Value), 1 ≤ m ∧ m ≤ 7 ∧ Small y ∧ ziter m y = ziter 8 x ∧
    a = { tmps := #[.int .i64 y, u1, u2, u3, u4, .int .i64 (m : Int), u6, u7, u8, u9, u10, u11, u12, u13, u14, u15, u16, u17, u18, u19, u20, u21], defers := [] }

theorem bits_top (c : BitVec 24) (b : UInt8) : bits .xor .i64 (c.toNat : Int) ((b.toNat : Int) * 65536) = ((c ^^^ CrcP.top b.toBitVec).toNat : Int) := by
  have hc := c.isLt
  have hb := b.toNat_lt
  rw [show ((b.toNat : Int) * 65536) = ((b.toNat * 65536 : Nat) : Int) from by omega, i64_xor_nat _ _ (by omega) (by omega), BitVec.toNat_xor, CrcP.top_toNat]
  rfl

theorem zyes (y : Int) (h : 16777216 ≤ y * 2) : bits .xor .i64 (y * 2) 25578747 = zstep y := by unfold zstep; rw [if_pos h]
theorem zno (y : Int) (h : y * 2 < 16777216) : y * 2 = zstep y := by unfold zstep; rw [if_neg (by omega)]

set_option maxHeartbeats 400000 in
theorem step_int (c b y0 : Int) (hx : bits .xor .i64 c (b * 65536) = y0) (hb0 : 0 ≤ b) (hb : b < 256) (hy0 : Small y0) (w : World) :
    Calls Try.prog 23 #[.int .i64 c, .int .u8 b] w fun e w' => e = .returned (.int .i64 (ziter 8 y0)) ∧ w = w' := by
  obtain ⟨hy, hy'⟩ := hy0.bd
  have hs1 := zstep_small hy0
  go_enter Try.func23, Try.ntmps23
  go_wp2
  refine wp_scope_jumps 0 (fun a' w' => w = w' ∧ JJ y0 a') (fun a' _ => (intOf (a'.tmps.getD 5 undef)).toNat) rfl ?_ ?_
  · repeat' (first | go_step | go_step3)
    · rw [zyes y0 (by assumption)]
      exact ⟨rfl, rfl, 7, zstep y0, _, _, _, _, _, _, _, _, _, _, _, _, _, _, _, _, _, _, _, _, by omega, by omega, hs1, rfl, rfl⟩
    · rw [zno y0 (by assumption)]
      exact ⟨rfl, rfl, 7, zstep y0, _, _, _, _, _, _, _, _, _, _, _, _, _, _, _, _, _, _, _, _, by omega, by omega, hs1, rfl, rfl⟩
  · rintro a' w' ⟨rfl, m, y, u1, u2, u3, u4, u6, u7, u8, u9, u10, u11, u12, u13, u14, u15, u16, u17, u18, u19, u20, u21, h1, h7, hs, hm, rfl⟩
    have hs2 := zstep_small hs
    obtain ⟨hz, hz'⟩ := hs.bd
    obtain ⟨k, rfl⟩ : ∃ k, m = k + 1 := ⟨m - 1, by omega⟩
    have Hm := Lib.hid hm
    clear hm hx
    repeat' (first | go_step | go_step3)
    · rw [zyes y (by assumption)]
      exact ⟨rfl, ⟨rfl, k, zstep y, _, _, _, _, _, _, _, _, _, _, _, _, _, _, _, _, _, _, _, _, by omega, by omega, hs2, Hm.out, rfl⟩, by simp [intOf]⟩
    · rw [zyes y (by assumption)]
      obtain rfl : k = 0 := by omega
      simp only [Exit.jump]
      go_ret
      exact ⟨by rw [← Hm.out]; rfl, rfl⟩
    · rw [zno y (by assumption)]
      exact ⟨rfl, ⟨rfl, k, zstep y, _, _, _, _, _, _, _, _, _, _, _, _, _, _, _, _, _, _, _, _, by omega, by omega, hs2, Hm.out, rfl⟩, by simp [intOf]⟩
    · rw [zno y (by assumption)]
      obtain rfl : k = 0 := by omega
      simp only [Exit.jump]
      go_ret
      exact ⟨by rw [← Hm.out]; rfl, rfl⟩

/-- crc.step: one byte's step. -/
theorem step_any (c : BitVec 24) (b : UInt8) (w : World) :
    Calls Try.prog 23 #[.int .i64 (c.toNat : Int), .int .u8 (b.toNat : Int)] w fun e w' => e = .returned (.int .i64 ((CrcP.byteStep c b.toBitVec).toNat : Int)) ∧ w = w' := by
  have h := step_int (c.toNat : Int) (b.toNat : Int) _ (bits_top c b) (by omega) (by have := b.toNat_lt; omega) ⟨_, rfl⟩ w
  rw [ziter_bv] at h
  exact h
end Go.Proofs.Ytkedelcknkhcnaa
