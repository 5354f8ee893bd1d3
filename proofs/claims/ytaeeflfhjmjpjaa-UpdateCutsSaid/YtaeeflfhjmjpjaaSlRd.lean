/- Slices that are read: what their cells hold, and that calls which make memory alone leave it so. -/
import Derived.WalkKit
import Derived.DataReads
import Derived.Laws.OwnMore
namespace SlRd
open Go Go.RowKit

/-- the slice v of n elements of size cells each reads as the cells xs -/
def Rd (W : World) (size : Nat) (v : Value) (n : Nat) (xs : List Value) : Prop :=
  xs.length = n * size ∧ ∃ ao cap, v = .slice ao n cap ∧ (0 < n → ∃ b o, ao = some ⟨b, o, none⟩ ∧ b < W.heap.size ∧ ∀ j, j < n * size → W.cell? ⟨b, o + j, none⟩ = xs[j]?)

theorem Rd.below {W W' : World} {size n : Nat} {v : Value} {xs : List Value} (h : Rd W size v n xs) (hb : Below W.heap.size W W') : Rd W' size v n xs := by
  obtain ⟨h1, ao, cap, h2, h3⟩ := h
  refine ⟨h1, ao, cap, h2, fun hn => ?_⟩
  obtain ⟨b, o, h4, h5, h6⟩ := h3 hn
  exact ⟨b, o, h4, Nat.lt_of_lt_of_le h5 hb.size, fun j hj => by rw [hb.cell (p := ⟨b, o + j, none⟩) h5]; exact h6 j hj⟩

theorem owns_lt {W : World} {base size n : Nat} {e : TypeId} {v : Value} {xs : List Value} (h : W.ownsRow base e size v n xs) : ∀ k, v.ownBlock = some k → base ≤ k ∧ k < W.heap.size := by
  intro k hk
  rcases h.2 with ⟨rfl, _⟩ | ⟨g, cap, cur, rfl, hb, hh, _⟩
  · cases hk
  · cases hk
    refine ⟨hb, ?_⟩
    have := Array.getElem?_eq_some_iff.1 hh
    exact this.1

theorem owns_below {W W' : World} {base size n : Nat} {e : TypeId} {v : Value} {xs : List Value} (h : W.ownsRow base e size v n xs) (hb : Below W.heap.size W W') : W'.ownsRow base e size v n xs := by
  refine ⟨h.1, ?_⟩
  rcases h.2 with hn | ⟨g, cap, cur, hv, hbg, hh, rest⟩
  · exact .inl hn
  · refine .inr ⟨g, cap, cur, hv, hbg, ?_, rest⟩
    rw [hb.block g (Array.getElem?_eq_some_iff.1 hh).1]
    exact hh

/-- a row of other elements is another row -/
theorem owns_other {W W' : World} {base base' size size' n n' : Nat} {e e' : TypeId} {v v' : Value} {xs xs' : List Value} (h : W.ownsRow base e size v n xs) (h' : W.ownsRow base' e' size' v' n' xs') (hne : e ≠ e')
    (hg : W.grownBy W' v'.ownBlock) : W'.ownsRow base e size v n xs := by
  refine ⟨h.1, ?_⟩
  rcases h.2 with hn | ⟨g, cap, cur, hv, hbg, hh, rest⟩
  · exact .inl hn
  · refine .inr ⟨g, cap, cur, hv, hbg, ?_, rest⟩
    rw [hg.block g (Array.getElem?_eq_some_iff.1 hh).1 ?_]
    · exact hh
    · intro hk
      rcases h'.2 with ⟨rfl, _⟩ | ⟨g', cap', cur', rfl, _, hh', _⟩
      · cases hk
      · cases hk
        rw [hh] at hh'
        cases hh'
        exact hne rfl

/-- a store elsewhere -/
theorem owns_setCell {W : World} {base size n : Nat} {e : TypeId} {v : Value} {xs : List Value} (h : W.ownsRow base e size v n xs) (p : Addr) (u : Value) (hp : ∀ k, v.ownBlock = some k → k ≠ p.block) : (W.setCell p u).ownsRow base e size v n xs := by
  refine ⟨h.1, ?_⟩
  rcases h.2 with hn | ⟨g, cap, cur, hv, hbg, hh, rest⟩
  · exact .inl hn
  · refine .inr ⟨g, cap, cur, hv, hbg, ?_, rest⟩
    rw [Below.heap_setCell W p u g (hp g (by rw [hv]; rfl))]
    exact hh

theorem Rd.of_owns {W : World} {base size n : Nat} {e : TypeId} {v : Value} {xs : List Value} (h : W.ownsRow base e size v n xs) : Rd W size v n xs := by
  refine ⟨h.1, ?_⟩
  rcases h.2 with ⟨rfl, rfl⟩ | ⟨g, cap, cur, rfl, hb, hh, h1, h2, h3, h4⟩
  · exact ⟨none, 0, rfl, fun h => absurd h (by omega)⟩
  · refine ⟨_, _, rfl, fun _ => ⟨g, 0, rfl, (Array.getElem?_eq_some_iff.1 hh).1, fun j hj => ?_⟩⟩
    rw [Nat.zero_add]
    exact World.ownsRow.cellAt (cap := cap) h j hj

theorem Rd.lit {W : World} (cs : Array Value) (e : TypeId) (n size : Nat) (hs : cs.size = n * size) : Rd (W.alloc (.cells cs e)) size (.slice (some ⟨W.heap.size, 0, none⟩) n n) n cs.toList := by
  refine ⟨by simpa using hs, _, _, rfl, fun _ => ⟨_, _, rfl, by simp, fun j hj => ?_⟩⟩
  rw [Nat.zero_add, World.cell?_alloc_at _ _ _ _ rfl]
  simp

theorem Rd.nil (W : World) (size : Nat) : Rd W size (.slice none 0 0) 0 [] := ⟨by simp, none, 0, rfl, fun h => absurd h (by omega)⟩

/-- elements of the same number of cells each, laid one behind the other -/
theorem flat_get {α : Type} (f : α → List Value) (size : Nat) (hf : ∀ a, (f a).length = size) : ∀ (l : List α) (k j : Nat) (hk : k < l.length), j < size → (l.flatMap f)[k * size + j]? = (f (l[k]'hk))[j]?
  | [], k, j, hk, _ => absurd hk (by simp)
  | a :: l, 0, j, _, hj => by
    rw [List.flatMap_cons, Nat.zero_mul, Nat.zero_add, List.getElem?_append_left (by rw [hf]; exact hj)]
    rfl
  | a :: l, k + 1, j, hk, hj => by
    have e : (k + 1) * size + j = size + (k * size + j) := by rw [Nat.succ_mul]; omega
    rw [List.flatMap_cons, List.getElem?_append_right (by rw [hf]; omega), hf, e, Nat.add_sub_cancel_left]
    exact flat_get f size hf l k j (by simpa using hk) hj
theorem flat_length {α : Type} (f : α → List Value) (size : Nat) (hf : ∀ a, (f a).length = size) (l : List α) : (l.flatMap f).length = l.length * size := by
  induction l with
  | nil => simp
  | cons a l ih => rw [List.flatMap_cons, List.length_append, hf, ih, List.length_cons, Nat.succ_mul]; omega

/-- a row of one cell each: its k-th -/
theorem Rd.at1 {W : World} {a : Option Addr} {n c : Nat} {xs : List Value} (h : Rd W 1 (.slice a n c) n xs) (k : Nat) (hk : k < n) : ∃ b o, a = some ⟨b, o, none⟩ ∧ b < W.heap.size ∧ W.cell? ⟨b, o + k, none⟩ = xs[k]? := by
  obtain ⟨_, a', c', hv, hc⟩ := h
  cases hv
  obtain ⟨b, o, h1, h2, h3⟩ := hc (by omega)
  exact ⟨b, o, h1, h2, h3 k (by omega)⟩
theorem Rd.atk {W : World} {a : Option Addr} {n c size : Nat} {α : Type} (f : α → List Value) (hf : ∀ x, (f x).length = size) {l : List α} (h : Rd W size (.slice a n c) n (l.flatMap f)) (hn : n = l.length) (k : Nat) (hk : k < l.length) :
    ∃ b o, a = some ⟨b, o, none⟩ ∧ b < W.heap.size ∧ ∀ j, j < size → W.cell? ⟨b, o + k * size + j, none⟩ = (f (l[k]'hk))[j]? := by
  obtain ⟨_, a', c', hv, hc⟩ := h
  cases hv
  subst hn
  obtain ⟨b, o, h1, h2, h3⟩ := hc (by omega)
  refine ⟨b, o, h1, h2, fun j hj => ?_⟩
  have hlt : k * size + j < l.length * size := by
    have : (k + 1) * size ≤ l.length * size := Nat.mul_le_mul_right _ hk
    rw [Nat.succ_mul] at this
    omega
  rw [Nat.add_assoc, h3 _ hlt]
  exact flat_get f size hf l k j hk hj
end SlRd
