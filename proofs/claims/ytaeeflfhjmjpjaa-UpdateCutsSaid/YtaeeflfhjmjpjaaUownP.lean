/- Stores into rows that stand beside an update. -/
import Derived.Test.YtaeeflfhjmjpjaaUsame
import Derived.Test.YtaeeflfhjmjpjaaFour
import Derived.Lib.LazyBuf
import Derived.Deep.MidRow
namespace Go.Proofs.Ytaeeflfhjmjpjaa
open Go.RowKit SlRd
set_option linter.unusedVariables false

theorem owns_cells_far {base n size : Nat} {e : TypeId} {x : Value} {xs : List Value} (g : Nat) (hne : ∀ q, x.ownBlock = some q → q ≠ g) : ∀ (vs : List Value) (o : Nat) (W : World), W.ownsRow base e size x n xs → (W.setCells g o vs).ownsRow base e size x n xs
  | [], o, W, h => h
  | v :: vs, o, W, h => owns_cells_far g hne vs (o + 1) _ (owns_setCell h ⟨g, o, none⟩ v hne)
theorem owns_cells_in {base n size c g : Nat} {e : TypeId} : ∀ (vs : List Value) (o : Nat) (W : World) (xs : List Value), W.ownsRow base e size (.slice (some ⟨g, 0, none⟩) n c) n xs → ∃ xs', (W.setCells g o vs).ownsRow base e size (.slice (some ⟨g, 0, none⟩) n c) n xs'
  | [], o, W, xs, h => ⟨xs, h⟩
  | v :: vs, o, W, xs, h => owns_cells_in vs (o + 1) _ _ (h.stored o v).1
theorem UO.cells_far {B g : Nat} {v : Value} {u : Up} (hB : B ≠ g) (hv : ∀ q, v.ownBlock = some q → q ≠ g) : ∀ (vs : List Value) (o : Nat) (W : World), UO W B v u → UO (W.setCells g o vs) B v u
  | [], o, W, h => h
  | a :: vs, o, W, h => UO.cells_far hB hv vs (o + 1) _ ⟨h.h.far hB _, owns_setCell h.own ⟨g, o, none⟩ a hv⟩
theorem UW.cells_far {w0 W : World} {B g : Nat} {v : Value} {u : Up} (h : UW w0 W B v u) (hB : B ≠ g) (hv : ∀ q, v.ownBlock = some q → q ≠ g) (hg : w0.heap.size ≤ g) (vs : List Value) (o : Nat) : UW w0 (W.setCells g o vs) B v u :=
  ⟨UO.cells_far hB hv vs o W h.o, h.b, h.v, below_setCells hg vs o _ h.w⟩
theorem UW.ne {w0 W : World} {B n size g c : Nat} {v : Value} {u : Up} {base : Nat} {e : TypeId} {xs : List Value} (h : UW w0 W B v u) (ho : W.ownsRow base e size (.slice (some ⟨g, 0, none⟩) n c) n xs) (h1 : e ≠ 86) (h2 : e ≠ 88) : B ≠ g ∧ ∀ q, v.ownBlock = some q → q ≠ g := by
  have := h.o.apart ho h1 h2 g rfl
  exact ⟨fun e => this (.inl e.symm), fun q hq e => this (.inr (by rw [hq, e]))⟩
theorem own_ne {W : World} {base base' n n' size size' c c' g g' : Nat} {e e' : TypeId} {xs xs' : List Value} (h : W.ownsRow base e size (.slice (some ⟨g, 0, none⟩) n c) n xs) (h' : W.ownsRow base' e' size' (.slice (some ⟨g', 0, none⟩) n' c') n' xs') (hne : e ≠ e') : g ≠ g' := by
  rintro rfl
  rcases h.2 with ⟨h1, _⟩ | ⟨q, cap, cur, h1, _, hh, _⟩
  · cases h1
  · cases h1
    exact own_blk_ne h' (t := e) (cs := cur) hh (Ne.symm hne) rfl
theorem own_at {W : World} {base n size c g : Nat} {e : TypeId} {xs : List Value} (h : W.ownsRow base e size (.slice (some ⟨g, 0, none⟩) n c) n xs) (j : Nat) (hj : j < n * size) : (∃ u, W.cell? ⟨g, j, none⟩ = some u) ∧ W.frozen? ⟨g, j, none⟩ = false := by
  refine ⟨⟨xs[j]'(by rw [h.1]; exact hj), ?_⟩, h.frozenAt _⟩
  rw [h.cellAt _ hj, List.getElem?_eq_getElem (by rw [h.1]; exact hj)]
theorem own_there {W : World} {base n size c g : Nat} {e : TypeId} {xs : List Value} (h : W.ownsRow base e size (.slice (some ⟨g, 0, none⟩) n c) n xs) (o m : Nat) (hj : o + m ≤ n * size) : W.there g o m := fun j hlt => by
  obtain ⟨⟨u, hu⟩, hf⟩ := own_at h (o + j) (by omega)
  exact ⟨by rw [hu]; rfl, hf⟩
theorem UW.set_far {w0 W : World} {B g : Nat} {v : Value} {u : Up} (h : UW w0 W B v u) (hB : B ≠ g) (hv : ∀ q, v.ownBlock = some q → q ≠ g) (hg : w0.heap.size ≤ g) (vs : List Value) (o : Nat) : UW w0 (W.setCells g o vs) B v u := h.cells_far hB hv hg vs o
/-- four rows that are written, two that are not, beside an update -/
structure Own6 (w : World) (B : Nat) (v : Value) (u : Up) (n gc gl ga gp gx gy cc cl ca cp cx cy bx bY : Nat) (X Y : List Value) (W : World) : Prop where
  u : UW w W B v u
  c : ∃ xs, W.ownsRow 0 3 1 (.slice (some ⟨gc, 0, none⟩) n cc) n xs
  l : ∃ xs, W.ownsRow 0 9 1 (.slice (some ⟨gl, 0, none⟩) n cl) n xs
  a : ∃ xs, W.ownsRow 0 3 1 (.slice (some ⟨ga, 0, none⟩) n ca) n xs
  p : ∃ xs, W.ownsRow 0 43 9 (.slice (some ⟨gp, 0, none⟩) n cp) n xs
  x : W.ownsRow bx 3 1 (.slice (some ⟨gx, 0, none⟩) n cx) n X
  y : W.ownsRow bY 43 9 (.slice (some ⟨gy, 0, none⟩) n cy) n Y
  n1 : gc ≠ ga
  n2 : gc ≠ gx
  n3 : ga ≠ gx
  n4 : gp ≠ gy
  e1 : w.heap.size ≤ gc
  e2 : w.heap.size ≤ gl
  e3 : w.heap.size ≤ ga
  e4 : w.heap.size ≤ gp
theorem far_of {g g' n c : Nat} (h : g' ≠ g) : ∀ q, (Value.slice (some ⟨g', 0, none⟩) n c).ownBlock = some q → q ≠ g := fun q hq e => h (by cases hq; exact e)
theorem Own6.store {w : World} {B : Nat} {v : Value} {u : Up} {n gc gl ga gp gx gy cc cl ca cp cx cy bx bY : Nat} {X Y : List Value} {W : World} (h : Own6 w B v u n gc gl ga gp gx gy cc cl ca cp cx cy bx bY X Y W) (g o : Nat) (vs : List Value) (hg : g = gc ∨ g = gl ∨ g = ga ∨ g = gp) :
    Own6 w B v u n gc gl ga gp gx gy cc cl ca cp cx cy bx bY X Y (W.setCells g o vs) := by
  obtain ⟨hu, ⟨xc, hc⟩, ⟨xl, hl⟩, ⟨xa, ha⟩, ⟨xp, hp⟩, hx, hy, n1, n2, n3, n4, e1, e2, e3, e4⟩ := h
  have cl' := own_ne hc hl (by decide)
  have cp' := own_ne hc hp (by decide)
  have cy' := own_ne hc hy (by decide)
  have la := own_ne hl ha (by decide)
  have lp := own_ne hl hp (by decide)
  have lx := own_ne hl hx (by decide)
  have ly := own_ne hl hy (by decide)
  have ap := own_ne ha hp (by decide)
  have ay := own_ne ha hy (by decide)
  have px := own_ne hp hx (by decide)
  rcases hg with rfl | rfl | rfl | rfl
  · obtain ⟨f1, f2⟩ := hu.ne hc (by decide) (by decide)
    exact ⟨hu.cells_far f1 f2 e1 _ _, owns_cells_in _ _ _ _ hc, ⟨_, owns_cells_far _ (far_of cl'.symm) _ _ _ hl⟩, ⟨_, owns_cells_far _ (far_of n1.symm) _ _ _ ha⟩, ⟨_, owns_cells_far _ (far_of cp'.symm) _ _ _ hp⟩, owns_cells_far _ (far_of n2.symm) _ _ _ hx, owns_cells_far _ (far_of cy'.symm) _ _ _ hy, n1, n2, n3, n4, e1, e2, e3, e4⟩
  · obtain ⟨f1, f2⟩ := hu.ne hl (by decide) (by decide)
    exact ⟨hu.cells_far f1 f2 e2 _ _, ⟨_, owns_cells_far _ (far_of cl') _ _ _ hc⟩, owns_cells_in _ _ _ _ hl, ⟨_, owns_cells_far _ (far_of la.symm) _ _ _ ha⟩, ⟨_, owns_cells_far _ (far_of lp.symm) _ _ _ hp⟩, owns_cells_far _ (far_of lx.symm) _ _ _ hx, owns_cells_far _ (far_of ly.symm) _ _ _ hy, n1, n2, n3, n4, e1, e2, e3, e4⟩
  · obtain ⟨f1, f2⟩ := hu.ne ha (by decide) (by decide)
    exact ⟨hu.cells_far f1 f2 e3 _ _, ⟨_, owns_cells_far _ (far_of n1) _ _ _ hc⟩, ⟨_, owns_cells_far _ (far_of la) _ _ _ hl⟩, owns_cells_in _ _ _ _ ha, ⟨_, owns_cells_far _ (far_of ap.symm) _ _ _ hp⟩, owns_cells_far _ (far_of n3.symm) _ _ _ hx, owns_cells_far _ (far_of ay.symm) _ _ _ hy, n1, n2, n3, n4, e1, e2, e3, e4⟩
  · obtain ⟨f1, f2⟩ := hu.ne hp (by decide) (by decide)
    exact ⟨hu.cells_far f1 f2 e4 _ _, ⟨_, owns_cells_far _ (far_of cp') _ _ _ hc⟩, ⟨_, owns_cells_far _ (far_of lp) _ _ _ hl⟩, ⟨_, owns_cells_far _ (far_of ap) _ _ _ ha⟩, owns_cells_in _ _ _ _ hp, owns_cells_far _ (far_of px.symm) _ _ _ hx, owns_cells_far _ (far_of n4.symm) _ _ _ hy, n1, n2, n3, n4, e1, e2, e3, e4⟩
theorem owns_base {base n size : Nat} {e : TypeId} {x : Value} {xs : List Value} {W : World} (h : W.ownsRow base e size x n xs) : W.ownsRow 0 e size x n xs := by
  refine ⟨h.1, ?_⟩
  rcases h.2 with h1 | ⟨g, cap, cur, h1, _, h3⟩
  · exact .inl h1
  · exact .inr ⟨g, cap, cur, h1, Nat.zero_le _, h3⟩
/-- a new update: all of its parts are to be asked -/
theorem new_st {stripe e s : Int} {cols : List Int} {bl : List ByteArray} (h : Fits stripe e s cols bl) : stU (newU stripe e s cols bl) = 0 ∧ toAsk (newU stripe e s cols bl) = (newU stripe e s cols bl).parts := by
  have hop : ∀ p ∈ (newU stripe e s cols bl).parts, p.op = false := by
    intro p hp
    obtain ⟨q, _, rfl⟩ := List.mem_map.1 hp
    rfl
  have hl := parts_len h
  have h0 : stU (newU stripe e s cols bl) = 0 := by
    unfold stU stP
    rw [if_neg (by simp [newU]), if_pos]
    rw [List.any_eq_true]
    have hn := h.n0
    refine ⟨(newU stripe e s cols bl).parts[0]'(by omega), List.getElem_mem _, ?_⟩
    rw [hop _ (List.getElem_mem _)]
    rfl
  refine ⟨h0, ?_⟩
  unfold toAsk
  rw [h0, List.filter_eq_self]
  intro p hp
  unfold wants
  rw [hop p hp]
  rfl
end Go.Proofs.Ytaeeflfhjmjpjaa
