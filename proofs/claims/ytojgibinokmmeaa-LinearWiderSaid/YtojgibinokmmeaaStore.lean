/- Stores into the cells of a row of events. -/
import Derived.Test.YtojgibinokmmeaaEvents
import Derived.Deep.MidRow
namespace Go.Proofs.Ytojgibinokmmeaa
open Go.RowKit SlRd Lin
set_option linter.unusedVariables false

theorem flat_set : ∀ (ls : List Lin.Ev) (k : Nat) (x y : Lin.Ev) (j : Nat) (v : Value), ls[k]? = some x → j < 8 → (Ecs x).set j v = Ecs y → (ls.flatMap Ecs).set (k * 8 + j) v = (ls.set k y).flatMap Ecs
  | [], k, x, y, j, v, hk, _, _ => by simp at hk
  | a :: ls, 0, x, y, j, v, hk, hj, he => by
    simp only [List.getElem?_cons_zero, Option.some.injEq] at hk
    subst hk
    rw [List.set_cons_zero, List.flatMap_cons, List.flatMap_cons, Nat.zero_mul, Nat.zero_add, List.set_append_left _ _ (by exact hj), he]
  | a :: ls, k + 1, x, y, j, v, hk, hj, he => by
    rw [List.getElem?_cons_succ] at hk
    have h8 : (Ecs a).length = 8 := rfl
    rw [List.set_cons_succ, List.flatMap_cons, List.flatMap_cons, ← flat_set ls k x y j v hk hj he, List.set_append_right _ _ (by rw [h8]; omega), h8, show (k + 1) * 8 + j - 8 = k * 8 + j from by omega]

section
variable {W : World} {base g n c : Nat} {ls : List Lin.Ev}
theorem own_store (h : W.ownsRow base 31 8 (.slice (some ⟨g, 0, none⟩) n c) n (ls.flatMap Ecs)) (k : Nat) (x y : Lin.Ev) (j : Nat) (v : Value) (hk : ls[k]? = some x) (hj : j < 8) (he : (Ecs x).set j v = Ecs y) :
    (W.setCell ⟨g, k * 8 + j, none⟩ v).ownsRow base 31 8 (.slice (some ⟨g, 0, none⟩) n c) n ((ls.set k y).flatMap Ecs) := by
  rw [← flat_set ls k x y j v hk hj he]
  exact (h.stored (k * 8 + j) v).1
theorem own_head {v : Value} (h : W.ownsRow base 31 8 v n (ls.flatMap Ecs)) (hn : 0 < n) : ∃ g c, v = .slice (some ⟨g, 0, none⟩) n c ∧ base ≤ g ∧ g < W.heap.size := by
  rcases h.2 with ⟨_, h2⟩ | ⟨g, cap, cur, h1, h2, h3, _⟩
  · omega
  · exact ⟨g, cap, h1, h2, (Array.getElem?_eq_some_iff.1 h3).1⟩
theorem own_cells (h : W.ownsRow base 31 8 (.slice (some ⟨g, 0, none⟩) n c) n (ls.flatMap Ecs)) (k : Nat) (x : Lin.Ev) (hk : ls[k]? = some x) (hn : n = ls.length) (j : Nat) (hj : j < 8) :
    W.cell? ⟨g, k * 8 + j, none⟩ = (Ecs x)[j]? ∧ W.frozen? ⟨g, k * 8 + j, none⟩ = false := by
  obtain ⟨hlt, hx⟩ := List.getElem?_eq_some_iff.1 hk
  have h2 : k * 8 + j < n * 8 := by rw [hn]; omega
  refine ⟨?_, h.frozenAt _⟩
  rw [h.cellAt _ h2, flat_get Ecs 8 (fun _ => rfl) ls k j hlt hj, hx]
end
end Go.Proofs.Ytojgibinokmmeaa
