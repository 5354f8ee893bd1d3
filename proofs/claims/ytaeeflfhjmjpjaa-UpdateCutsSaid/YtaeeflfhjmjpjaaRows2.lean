/- A row of elements of several cells each, that the call itself has made: read, written element by element. No program in sight. -/
import Derived.Test.YtaeeflfhjmjpjaaFour
import Derived.Test.YtaeeflfhjmjpjaaSlRd
set_option linter.unusedVariables false
namespace SlRd
open Go Go.RowKit

def RowsOf {α : Type} (f : α → List Value) (size : Nat) (W : World) (g : Nat) (l : List α) : Prop :=
  ∀ (k : Nat) (hk : k < l.length) (j : Nat), j < size → W.cell? ⟨g, k * size + j, none⟩ = (f (l[k]'hk))[j]? ∧ W.frozen? ⟨g, k * size + j, none⟩ = false
section
variable {α : Type} {f : α → List Value} {size : Nat} {W W' : World} {g : Nat} {l : List α}
theorem RowsOf.below (h : RowsOf f size W g l) (hb : Below W.heap.size W W') (hg : g < W.heap.size) : RowsOf f size W' g l := fun k hk j hj =>
  ⟨(hb.cell (p := ⟨g, k * size + j, none⟩) hg).trans (h k hk j hj).1, (hb.frozen (p := ⟨g, k * size + j, none⟩) hg).trans (h k hk j hj).2⟩
theorem RowsOf.of_owns (hf : ∀ a, (f a).length = size) {base n cap : Nat} {e : TypeId} (h : W.ownsRow base e size (.slice (some ⟨g, 0, none⟩) n cap) n (l.flatMap f)) (hn : n = l.length) : RowsOf f size W g l := fun k hk j hj => by
  have hlt : k * size + j < n * size := by
    have : (k + 1) * size ≤ l.length * size := Nat.mul_le_mul_right _ hk
    rw [Nat.succ_mul] at this
    rw [hn]
    omega
  exact ⟨(h.cellAt _ hlt).trans (flat_get f size hf l k j hk hj), h.frozenAt _⟩
theorem RowsOf.there (h : RowsOf f size W g l) (hf : ∀ a, (f a).length = size) (k : Nat) (hk : k < l.length) : W.there g (k * size) size := fun j hj => by
  obtain ⟨h1, h2⟩ := h k hk j hj
  rw [h1, List.getElem?_eq_getElem (by rw [hf]; exact hj)]
  exact ⟨rfl, h2⟩
theorem RowsOf.set (h : RowsOf f size W g l) (hf : ∀ a, (f a).length = size) (c : Nat) (hc : c < l.length) (x : α) : RowsOf f size (W.setCells g (c * size) (f x)) g (l.set c x) := fun k hk j hj => by
  have hk' : k < l.length := by rw [List.length_set] at hk; exact hk
  obtain ⟨h1, h2⟩ := h k hk' j hj
  refine ⟨?_, by rw [BRow.setCells_frozen]; exact h2⟩
  by_cases e : k = c
  · subst e
    have := World.cell?_setCells_in g (f x) (k * size) W (fun j hj' => by rw [hf] at hj'; exact (h.there hf k hk' j hj').1) j (by rw [hf]; exact hj)
    rw [this, List.getElem_set_self, List.getElem?_eq_getElem (by rw [hf]; exact hj)]
  · rw [World.cell?_setCells_out _ _ _ _ _ (by
      intro _ _
      rw [hf]
      show k * size + j < c * size ∨ c * size + size ≤ k * size + j
      rcases Nat.lt_or_gt_of_ne e with hlt | hgt
      · left
        have : (k + 1) * size ≤ c * size := Nat.mul_le_mul_right _ hlt
        rw [Nat.succ_mul] at this
        omega
      · right
        have : (c + 1) * size ≤ k * size := Nat.mul_le_mul_right _ hgt
        rw [Nat.succ_mul] at this
        omega), h1, List.getElem_set_ne (Ne.symm e)]
theorem RowsOf.rd (h : RowsOf f size W g l) (hf : ∀ a, (f a).length = size) (hs : 0 < size) (hg : g < W.heap.size) (cap : Nat) : Rd W size (.slice (some ⟨g, 0, none⟩) l.length cap) l.length (l.flatMap f) := by
  refine ⟨flat_length f size hf l, _, _, rfl, fun hn => ⟨g, 0, rfl, hg, fun j hj => ?_⟩⟩
  have hk : j / size < l.length := by rw [Nat.div_lt_iff_lt_mul hs]; exact hj
  have hr : j % size < size := Nat.mod_lt _ hs
  have e : j = j / size * size + j % size := by have := Nat.div_add_mod j size; rw [Nat.mul_comm] at this; omega
  have h1 := (h (j / size) hk (j % size) hr).1
  have h2 := flat_get f size hf l (j / size) (j % size) hk hr
  rw [← e] at h1 h2
  rw [Nat.zero_add, h1, h2]
end
end SlRd
