/- Plain facts on the sum, more: a text that differs in one byte or in two that follow one another. -/
import Derived.Test.YtkedelcknkhcnaaPlain
namespace CrcP

theorem byteStep_zero (c : BitVec 24) : byteStep c 0#8 = iter 8 c := by
  unfold byteStep
  rw [show top 0#8 = 0#24 from by decide, BitVec.xor_zero]

theorem go_range_succ (m : Nat → BitVec 8) (i : Nat) : go 0#24 ((List.range (i + 1)).map m) = byteStep (go 0#24 ((List.range i).map m)) (m i) := by
  rw [List.range_succ, List.map_append, List.map_singleton, go_snoc]

theorem go_lead (m : Nat → BitVec 8) (i : Nat) (h : ∀ j, j < i → m j = 0#8) : go 0#24 ((List.range i).map m) = 0#24 := by
  induction i with
  | zero => rfl
  | succ i ih => rw [go_range_succ, ih (fun j hj => h j (by omega)), h i (by omega), byteStep_zero, iter_zero]

theorem go_behind (m : Nat → BitVec 8) (i q : Nat) (h : ∀ j, i ≤ j → m j = 0#8) : go 0#24 ((List.range (i + q)).map m) = 0#24 ↔ go 0#24 ((List.range i).map m) = 0#24 := by
  induction q with
  | zero => rfl
  | succ q ih => rw [← Nat.add_assoc, go_range_succ, h (i + q) (by omega), byteStep_zero, iter_eq_zero, ih]

theorem two_zero (a b : BitVec 8) : go 0#24 [a, b] = 0#24 ↔ a = 0#8 ∧ b = 0#8 := by
  rw [go_two_bytes, iter_eq_zero, BitVec.zero_xor]
  constructor
  · intro h
    have e : three a b 0#8 = three 0#8 0#8 0#8 := by
      have h0 : three 0#8 0#8 0#8 = 0#24 := by decide
      rw [h0]
      unfold three
      rw [h]
      decide
    obtain ⟨e1, e2, _⟩ := three_inj _ _ _ _ _ _ e
    exact ⟨e1, e2⟩
  · rintro ⟨rfl, rfl⟩
    decide
theorem one_zero (a : BitVec 8) : go 0#24 [a] = 0#24 ↔ a = 0#8 := by
  have h := two_zero a 0#8
  rw [go_cons, go_cons, go_nil, byteStep_zero, iter_eq_zero] at h
  rw [go_cons, go_nil, h]
  exact ⟨fun h => h.1, fun h => ⟨h, rfl⟩⟩

/-- a mask of two bytes -/
def mask2 (k : Nat) (a b : BitVec 8) (j : Nat) : BitVec 8 := if j = k + 1 then b else if j = k then a else 0#8
theorem mask2_zero (k n : Nat) (a b : BitVec 8) (hk : k + 1 < n) : go 0#24 ((List.range n).map (mask2 k a b)) = 0#24 ↔ a = 0#8 ∧ b = 0#8 := by
  obtain ⟨q, rfl⟩ : ∃ q, n = k + 1 + 1 + q := ⟨n - (k + 2), by omega⟩
  rw [go_behind _ _ _ (fun j hj => by unfold mask2; rw [if_neg (by omega), if_neg (by omega)]), go_range_succ, go_range_succ, go_lead _ _ (fun j hj => by unfold mask2; rw [if_neg (by omega), if_neg (by omega)])]
  have e1 : mask2 k a b k = a := by unfold mask2; rw [if_neg (by omega), if_pos rfl]
  have e2 : mask2 k a b (k + 1) = b := by unfold mask2; rw [if_pos rfl]
  rw [e1, e2]
  exact two_zero a b
theorem mask1_zero (k n : Nat) (a : BitVec 8) (hk : k + 1 = n) : go 0#24 ((List.range n).map (mask2 k a 0#8)) = 0#24 ↔ a = 0#8 := by
  subst hk
  rw [go_range_succ, go_lead _ _ (fun j hj => by unfold mask2; rw [if_neg (by omega), if_neg (by omega)])]
  have e1 : mask2 k a 0#8 k = a := by unfold mask2; rw [if_neg (by omega), if_pos rfl]
  rw [e1]
  exact one_zero a

theorem zip_range (n : Nat) (f g : Nat → BitVec 8) : List.zipWith (· ^^^ ·) ((List.range n).map f) ((List.range n).map g) = (List.range n).map fun j => f j ^^^ g j := by
  apply List.ext_getElem?
  intro i
  rw [List.getElem?_zipWith, List.getElem?_map, List.getElem?_map, List.getElem?_map]
  by_cases h : i < n
  · rw [List.getElem?_range h]; rfl
  · rw [List.getElem?_eq_none (by simp; omega)]; rfl

/-- two texts that differ by a mask: like sums just if the mask comes to nought -/
theorem go_mask (c : BitVec 24) (n : Nat) (f g m : Nat → BitVec 8) (h : ∀ j, j < n → g j = f j ^^^ m j) :
    go c ((List.range n).map g) = go c ((List.range n).map f) ↔ go 0#24 ((List.range n).map m) = 0#24 := by
  have e : (List.range n).map g = List.zipWith (· ^^^ ·) ((List.range n).map f) ((List.range n).map m) := by
    rw [zip_range]
    apply List.map_congr_left
    intro j hj
    exact h j (by simpa using hj)
  have hx := go_xor ((List.range n).map f) ((List.range n).map m) c 0#24 (by simp)
  rw [BitVec.xor_zero] at hx
  rw [e, hx]
  constructor
  · intro h2
    rw [← xor_eq_zero, BitVec.xor_assoc, BitVec.xor_comm (go 0#24 _), ← BitVec.xor_assoc, BitVec.xor_self, BitVec.zero_xor] at h2
    exact h2
  · intro h2
    rw [h2, BitVec.xor_zero]
end CrcP
