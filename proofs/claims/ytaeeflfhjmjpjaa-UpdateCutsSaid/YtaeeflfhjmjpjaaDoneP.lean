/- Plain facts: what SettleDone counts from below is what Forward tells. -/
import Derived.Test.YtaeeflfhjmjpjaaOnlyP
namespace Go.Proofs.Ytaeeflfhjmjpjaa
open Go.RowKit SlRd
set_option linter.unusedVariables false

def dD (kn : List Bool) (l : List Rc) (t : Tg) (m : Int) (c : Nat) : Bool := (TK kn m c).any fun i => doneP t (l.getD i default)
def dL (kn : List Bool) (l : List Rc) (t : Tg) (m : Int) (c : Nat) : Bool := (TK kn m c).any fun i => !openP t (l.getD i default)
def dS (kn : List Bool) (m : Int) (c : Nat) : Bool := (TK kn m c).any fun _ => true
theorem any_filter (p : Nat → Bool) (l : List Nat) : decide (0 < (l.filter p).length) = l.any p := by
  rw [Bool.eq_iff_iff, decide_eq_true_eq, List.any_eq_true, List.length_pos_iff_exists_mem]
  constructor
  · rintro ⟨a, ha⟩
    exact ⟨a, (List.mem_filter.1 ha).1, (List.mem_filter.1 ha).2⟩
  · rintro ⟨a, h1, h2⟩
    exact ⟨a, List.mem_filter.2 ⟨h1, h2⟩⟩
theorem all_filter (p : Nat → Bool) (l : List Nat) : ((l.filter p).length == l.length) = !l.any fun i => !p i := by
  induction l with
  | nil => rfl
  | cons a l ih =>
    rw [List.filter_cons, List.any_cons]
    cases hp : p a
    · have := List.length_filter_le p l
      simp
      omega
    · simp only [if_true, List.length_cons]
      rw [show (!true || l.any fun i => !p i) = l.any fun i => !p i from rfl, ← ih, Bool.eq_iff_iff, beq_iff_eq, beq_iff_eq]
      omega
theorem any_true (l : List Nat) : decide (0 < l.length) = l.any fun _ => true := by
  cases l <;> simp
theorem FW_is {kn : List Bool} {l : List Rc} (h : kn.length = l.length) (h6 : l.length ≤ 6) (t : Tg) (m : Int) : FW kn l t m = (dD kn l t m l.length || (dS kn m l.length && !dL kn l t m l.length)) := by
  unfold FW dD dS dL yes cols
  rw [show many kn l = l.length from by unfold many; omega, any_filter, all_filter, any_true]
theorem dD_hit (kn : List Bool) (l : List Rc) (t : Tg) (m : Int) (k : Nat) (h : (kn.getD k false && bitAt m k) = true) : dD kn l t m (k + 1) = (dD kn l t m k || doneP t (l.getD k default)) := by
  unfold dD; rw [TK_hit kn m k h]; simp
theorem dL_hit (kn : List Bool) (l : List Rc) (t : Tg) (m : Int) (k : Nat) (h : (kn.getD k false && bitAt m k) = true) : dL kn l t m (k + 1) = (dL kn l t m k || !openP t (l.getD k default)) := by
  unfold dL; rw [TK_hit kn m k h]; simp
theorem dS_hit (kn : List Bool) (m : Int) (k : Nat) (h : (kn.getD k false && bitAt m k) = true) : dS kn m (k + 1) = true := by
  unfold dS; rw [TK_hit kn m k h]; simp
theorem miss (kn : List Bool) (l : List Rc) (t : Tg) (m : Int) (k : Nat) (h : (kn.getD k false && bitAt m k) = false) : dD kn l t m (k + 1) = dD kn l t m k ∧ dL kn l t m (k + 1) = dL kn l t m k ∧ dS kn m (k + 1) = dS kn m k := by
  unfold dD dL dS; rw [TK_miss kn m k h]; exact ⟨rfl, rfl, rfl⟩
theorem two_pow_bd (k : Nat) (h : k ≤ 6) : (1 : Int) ≤ 2 ^ k ∧ (2 : Int) ^ k ≤ 64 := by
  rcases (show k = 0 ∨ k = 1 ∨ k = 2 ∨ k = 3 ∨ k = 4 ∨ k = 5 ∨ k = 6 from by omega) with rfl | rfl | rfl | rfl | rfl | rfl | rfl <;> decide
theorem div_bd (m u : Int) (h0 : 0 ≤ m) (h1 : m ≤ 64) (hu : 1 ≤ u) : 0 ≤ m / u ∧ m / u ≤ 64 := by
  refine ⟨Int.ediv_nonneg h0 (by omega), ?_⟩
  exact Int.le_trans (Int.ediv_le_self u h0) h1
end Go.Proofs.Ytaeeflfhjmjpjaa
