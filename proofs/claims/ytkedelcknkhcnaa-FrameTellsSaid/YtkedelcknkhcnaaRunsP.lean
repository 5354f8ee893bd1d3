/- Which bits a run turns, and what a store does to the row: the plain part. -/
import Derived.Test.YtkedelcknkhcnaaWhole
import Derived.Test.YtkedelcknkhcnaaPlainB
namespace Go.Proofs.Ytkedelcknkhcnaa
open Go.RowKit
set_option linter.unusedVariables false

theorem beq_nat (a b : BitVec 24) : (((a.toNat : Int) == (b.toNat : Int)) = decide (a = b)) := by
  by_cases h : a = b
  · subst h; simp
  · rw [decide_eq_false h, beq_eq_false_iff_ne]
    intro he
    exact h (BitVec.eq_of_toNat_eq (by omega))

theorem byts_same (s : ByteArray) : byts s = BRow.byts s := rfl

theorem sum_beq (S : BitVec 24) (n : Nat) (f g : Nat → BitVec 8) (m : Nat → BitVec 8) (p : Bool) (h : ∀ j, j < n → g j = f j ^^^ m j) (hp : CrcP.go 0#24 ((List.range n).map m) = 0#24 ↔ p = true) :
    ((((CrcP.go S ((List.range n).map g)).toNat : Int) == ((CrcP.go S ((List.range n).map f)).toNat : Int)) == p) = true := by
  rw [beq_nat]
  have e := CrcP.go_mask S n f g m h
  rw [hp] at e
  cases p
  · rw [decide_eq_false (by simpa using e)]; rfl
  · rw [decide_eq_true (by simpa using e)]; rfl

def TB (t : Int) (k : Nat) : Bool := (((1 + t) / 2 ^ (23 - k)).tmod 2 == 1)
def FF (t : Int) (fr : Nat) : Nat → Nat → Bool
  | 0 => fun _ => false
  | i + 1 => if TB t i then (fun q => FF t fr i q || q == fr + i) else FF t fr i
def SM (t : Int) : Nat → Bool
  | 0 => false
  | i + 1 => if TB t i then true else SM t i
def GG (s : ByteArray) (t : Int) (fr i j : Nat) : Int := ((BitVec.ofNat 8 (BRow.byteAt s j).toNat ^^^ CrcP.byteOf (FF t fr i) j).toNat : Int)

theorem FF_in (t : Int) (fr i q : Nat) (h : FF t fr i q = true) : fr ≤ q ∧ q < fr + i := by
  induction i with
  | zero => simp [FF] at h
  | succ i ih =>
    unfold FF at h
    split at h
    · rw [Bool.or_eq_true, beq_iff_eq] at h
      rcases h with h | h
      · have := ih h; omega
      · omega
    · have := ih h; omega
theorem FF_next (t : Int) (fr i : Nat) : FF t fr i (fr + i) = false := by
  cases h : FF t fr i (fr + i) with
  | false => rfl
  | true => have := FF_in t fr i _ h; omega
theorem SM_iff (t : Int) (fr k m : Nat) (h : fr + k ≤ m) : SM t k = true ↔ ∃ q, q < m ∧ FF t fr k q = true := by
  induction k with
  | zero => simp [SM, FF]
  | succ k ih =>
    unfold SM FF
    by_cases hT : TB t k = true
    · rw [if_pos hT, if_pos hT]
      refine ⟨fun _ => ⟨fr + k, by omega, by simp⟩, fun _ => rfl⟩
    · rw [if_neg hT, if_neg hT]
      exact ih (by omega)

theorem u8_back (v : Int) (h : 0 ≤ v ∧ v ≤ 255) : v = ((BitVec.ofNat 8 v.toNat).toNat : Int) := by
  rw [BitVec.toNat_ofNat]
  omega
theorem ofNat_bv (b : BitVec 8) : BitVec.ofNat 8 ((b.toNat : Int)).toNat = b := by
  rw [Int.toNat_natCast, BitVec.ofNat_toNat, BitVec.setWidth_eq]
theorem bv_bd (b : BitVec 8) : 0 ≤ (b.toNat : Int) ∧ (b.toNat : Int) ≤ 255 := by
  have := b.isLt
  omega
theorem one_shift (r : Nat) (h : r < 8) : (128 : Int) / 2 ^ r = ((0x80#8 >>> r).toNat : Int) := by
  have : ∀ r : Fin 8, (128 : Int) / 2 ^ r.val = ((0x80#8 >>> r.val).toNat : Int) := by decide
  exact this ⟨r, h⟩

theorem GG_start (s : ByteArray) (t : Int) (fr : Nat) : GG s t fr 0 = BRow.byteAt s := by
  funext j
  unfold GG
  have e : CrcP.byteOf (FF t fr 0) j = 0#8 := by
    unfold CrcP.byteOf FF
    decide
  rw [e, BitVec.xor_zero, ← u8_back _ (BRow.byteAt_lt s j)]
theorem GG_no (s : ByteArray) (t : Int) (fr i : Nat) (h : TB t i = false) : GG s t fr (i + 1) = GG s t fr i := by
  funext j
  unfold GG
  have e : FF t fr (i + 1) = FF t fr i := by
    show (if TB t i then _ else FF t fr i) = _
    rw [h]; rfl
  rw [e]
theorem GG_yes (s : ByteArray) (t : Int) (fr i : Nat) (h : TB t i = true) (j : Nat) :
    (if j = (fr + i) / 8 then bits .xor .u8 (GG s t fr i ((fr + i) / 8)) (128 / 2 ^ ((fr + i) % 8)) else GG s t fr i j) = GG s t fr (i + 1) j := by
  have e : FF t fr (i + 1) = fun q => FF t fr i q || q == fr + i := by
    show (if TB t i then _ else FF t fr i) = _
    rw [h]; rfl
  by_cases hj : j = (fr + i) / 8
  · subst hj
    rw [if_pos rfl]
    obtain ⟨x1, x2, x3⟩ := BRow.xor_u8 (GG s t fr i ((fr + i) / 8)) (128 / 2 ^ ((fr + i) % 8)) (bv_bd _) (by rw [one_shift _ (by omega)]; exact bv_bd _)
    rw [u8_back _ ⟨x2, x3⟩, x1, one_shift _ (by omega), ofNat_bv]
    unfold GG
    rw [ofNat_bv, e, CrcP.byteOf_this _ _ (FF_next t fr i), BitVec.xor_assoc]
  · rw [if_neg hj]
    unfold GG
    rw [e, CrcP.byteOf_other _ _ _ hj]

/-- the sums are unlike just if some bit was turned -/
theorem runs_beq (S : BitVec 24) (s : ByteArray) (t : Int) (fr k n : Nat) (hk : k ≤ 24) (hn : fr + k ≤ 8 * n) :
    ((((CrcP.go S ((List.range n).map fun j => BitVec.ofNat 8 (GG s t fr k j).toNat)).toNat : Int) != ((CrcP.go S ((List.range n).map fun j => BitVec.ofNat 8 (BRow.byteAt s j).toNat)).toNat : Int)) == SM t k) = true := by
  have h := sum_beq S n (fun j => BitVec.ofNat 8 (BRow.byteAt s j).toNat) (fun j => BitVec.ofNat 8 (GG s t fr k j).toNat) (CrcP.byteOf (FF t fr k)) (!SM t k) (fun j _ => by
    unfold GG
    rw [ofNat_bv]) (by
    rw [CrcP.go_bits, CrcP.bf_zero _ fr _ (fun q hq => by have := FF_in t fr k q hq; omega)]
    have e := SM_iff t fr k (8 * n) hn
    constructor
    · intro hall
      cases hs : SM t k with
      | false => rfl
      | true =>
        obtain ⟨q, hq, hf⟩ := e.1 hs
        rw [hall q hq] at hf
        cases hf
    · intro hs q hq
      cases hf : FF t fr k q with
      | false => rfl
      | true =>
        rw [e.2 ⟨q, hq, hf⟩] at hs
        cases hs)
  rw [beq_iff_eq] at h
  unfold bne
  rw [h]
  simp
end Go.Proofs.Ytkedelcknkhcnaa
