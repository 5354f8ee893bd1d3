/- Four new blocks one behind the other; two of them as results. No program in sight. -/
import Derived.Test.YtaeeflfhjmjpjaaCopyStr
import Derived.Deep.MidRow
set_option linter.unusedVariables false
namespace SlRd
open Go Go.RowKit

structure Four (n : Nat) (A B C D : List Value) (W : World) : Prop where
  a : ∀ j, W.cell? ⟨n, j, none⟩ = A[j]?
  b : ∀ j, W.cell? ⟨n + 1, j, none⟩ = B[j]?
  c : ∀ j, W.cell? ⟨n + 1 + 1, j, none⟩ = C[j]?
  d : ∀ j, W.cell? ⟨n + 1 + 1 + 1, j, none⟩ = D[j]?
  fa : ∀ j, W.frozen? ⟨n, j, none⟩ = false
  fc : ∀ j, W.frozen? ⟨n + 1 + 1, j, none⟩ = false
  fd : ∀ j, W.frozen? ⟨n + 1 + 1 + 1, j, none⟩ = false
  size : n + 1 + 1 + 1 < W.heap.size

theorem frozen_new (W : World) (cs : List Value) (e : TypeId) (n : Nat) (h : W.heap.size = n) (j : Nat) : (W.alloc (.cells cs.toArray e)).frozen? ⟨n, j, none⟩ = false := by
  subst h
  simp
theorem Four.of (w : World) (A B C D : List Value) (ea eb ec ed : TypeId) :
    Four w.heap.size A B C D ((((w.alloc (.cells A.toArray ea)).alloc (.cells B.toArray eb)).alloc (.cells C.toArray ec)).alloc (.cells D.toArray ed)) ∧
    Below w.heap.size w ((((w.alloc (.cells A.toArray ea)).alloc (.cells B.toArray eb)).alloc (.cells C.toArray ec)).alloc (.cells D.toArray ed)) := by
  have s1 : (w.alloc (.cells A.toArray ea)).heap.size = w.heap.size + 1 := by simp
  have s2 : ((w.alloc (.cells A.toArray ea)).alloc (.cells B.toArray eb)).heap.size = w.heap.size + 1 + 1 := by simp
  have s3 : (((w.alloc (.cells A.toArray ea)).alloc (.cells B.toArray eb)).alloc (.cells C.toArray ec)).heap.size = w.heap.size + 1 + 1 + 1 := by simp
  refine ⟨⟨?_, ?_, ?_, ?_, ?_, ?_, ?_, by simp⟩, (((Below.refl _ _).alloc (Nat.le_refl _) _).alloc (by simp) _).alloc (by simp; omega) _ |>.alloc (by simp; omega) _⟩
  · intro j
    rw [World.cell?_alloc_past _ _ _ (by rw [s3]; show w.heap.size < _; omega), World.cell?_alloc_past _ _ _ (by rw [s2]; show w.heap.size < _; omega), World.cell?_alloc_past _ _ _ (by rw [s1]; show w.heap.size < _; omega), World.cell?_alloc_at _ _ _ _ rfl]
    simp
  · intro j
    rw [World.cell?_alloc_past _ _ _ (by rw [s3]; show w.heap.size + 1 < _; omega), World.cell?_alloc_past _ _ _ (by rw [s2]; show w.heap.size + 1 < _; omega), World.cell?_alloc_at _ _ _ _ s1.symm]
    simp
  · intro j
    rw [World.cell?_alloc_past _ _ _ (by rw [s3]; show w.heap.size + 1 + 1 < _; omega), World.cell?_alloc_at _ _ _ _ s2.symm]
    simp
  · intro j
    rw [World.cell?_alloc_at _ _ _ _ s3.symm]
    simp
  · intro j
    rw [World.frozen?_alloc_past _ _ _ (by rw [s3]; show w.heap.size < _; omega), World.frozen?_alloc_past _ _ _ (by rw [s2]; show w.heap.size < _; omega), World.frozen?_alloc_past _ _ _ (by rw [s1]; show w.heap.size < _; omega)]
    exact frozen_new _ _ _ _ rfl j
  · intro j
    rw [World.frozen?_alloc_past _ _ _ (by rw [s3]; show w.heap.size + 1 + 1 < _; omega)]
    exact frozen_new _ _ _ _ s2 j
  · intro j
    exact frozen_new _ _ _ _ s3 j
theorem Four.below {n : Nat} {A B C D : List Value} {W W' : World} (h : Four n A B C D W) (hb : Below W.heap.size W W') : Four n A B C D W' := by
  have := h.size
  exact ⟨fun j => (hb.cell (p := ⟨n, j, none⟩) (by show n < _; omega)).trans (h.a j), fun j => (hb.cell (p := ⟨n + 1, j, none⟩) (by show n + 1 < _; omega)).trans (h.b j),
    fun j => (hb.cell (p := ⟨n + 1 + 1, j, none⟩) (by show n + 1 + 1 < _; omega)).trans (h.c j), fun j => (hb.cell (p := ⟨n + 1 + 1 + 1, j, none⟩) (by show n + 1 + 1 + 1 < _; omega)).trans (h.d j),
    fun j => (hb.frozen (p := ⟨n, j, none⟩) (by show n < _; omega)).trans (h.fa j), fun j => (hb.frozen (p := ⟨n + 1 + 1, j, none⟩) (by show n + 1 + 1 < _; omega)).trans (h.fc j),
    fun j => (hb.frozen (p := ⟨n + 1 + 1 + 1, j, none⟩) (by show n + 1 + 1 + 1 < _; omega)).trans (h.fd j), Nat.lt_of_lt_of_le h.size hb.size⟩
theorem there_of {W : World} {b n : Nat} {cs : List Value} (h : ∀ j, W.cell? ⟨b, j, none⟩ = cs[j]?) (hf : ∀ j, W.frozen? ⟨b, j, none⟩ = false) (hn : cs.length = n) : W.there b 0 n := fun j hj => by
  rw [Nat.zero_add, h j, List.getElem?_eq_getElem (by omega)]
  exact ⟨rfl, hf j⟩
theorem range_of {W : World} {b : Nat} {cs : List Value} (h : ∀ j, W.cell? ⟨b, j, none⟩ = cs[j]?) : W.rangeAt b 0 cs := fun j v hv => by
  rw [Nat.zero_add, h j]; exact hv
/-- the world behind two rows of stores into blocks that are there -/
theorem two_stores {W : World} {b4 b5 : Nat} {c4 c5 : List Value} (h4 : W.there b4 0 c4.length) (h5 : W.there b5 0 c5.length) (hne : b4 ≠ b5) :
    ((W.setCells b4 0 c4).setCells b5 0 c5).rangeAt b4 0 c4 ∧ ((W.setCells b4 0 c4).setCells b5 0 c5).rangeAt b5 0 c5 := by
  refine ⟨World.rangeAt_setCells_apart (World.rangeAt_setCells_same W b4 0 c4 h4) _ _ _ (.inl hne), World.rangeAt_setCells_same _ b5 0 c5 (World.there_setCells h5 _ _ _)⟩
end SlRd
