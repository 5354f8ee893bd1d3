/- Appends of whole rows onto a row that the call owns: in a plain list of operations, and at a step of a region that draws its order. No program in sight. -/
import Derived.Test.YtaeeflfhjmjpjaaTouch
import Derived.BigFrame
set_option linter.unusedVariables false
namespace SlRd
open Go Go.RowKit

/-- what an append asks of a slice's type -/
structure Ap (P : Program) (t e : TypeId) (size bytes : Nat) : Prop where
  ok : ∃ i z, P.underlying t = some (.slice e) ∧ P.info? e = some i ∧ i.zero = some z ∧ i.size = size ∧ i.bytes = bytes ∧ z.cells.size = size ∧ 0 < size
theorem Ap.of {P : Program} {t e : TypeId} {size bytes : Nat} {z : Value} (hu : P.underlying t = some (.slice e)) (hi : (P.info? e).map (fun i => (i.zero, i.size, i.bytes)) = some (some z, size, bytes)) (hz : z.cells.size = size) (hs : 0 < size) : Ap P t e size bytes := by
  rw [Option.map_eq_some_iff] at hi
  obtain ⟨i, h1, h2⟩ := hi
  simp only [Prod.mk.injEq] at h2
  exact ⟨i, z, hu, h1, h2.1, h2.2.1, h2.2.2, hz, hs⟩
theorem grown_refl (w : World) (row : Option Nat) : w.grownBy w row := ⟨rfl, rfl, rfl, Nat.le_refl _, fun _ _ _ => rfl⟩
theorem below_of_grown {w w' : World} (h : w.grownBy w' none) : Below w.heap.size w w' := ⟨h.os, h.tape, h.output, h.size, fun k hk => h.block k hk (by simp)⟩
theorem Rd.list (W : World) (cs : List Value) (e : TypeId) (n size : Nat) (hs : cs.length = n * size) : Rd (W.alloc (.cells cs.toArray e)) size (.slice (some ⟨W.heap.size, 0, none⟩) n n) n cs := by
  have := Rd.lit (W := W) cs.toArray e n size (by simpa using hs)
  simpa using this
theorem owns_grown {W W' : World} {base size n : Nat} {e : TypeId} {v : Value} {xs : List Value} {row : Option Nat} (h : W.ownsRow base e size v n xs) (hg : W.grownBy W' row) (hne : ∀ k, v.ownBlock = some k → row ≠ some k) : W'.ownsRow base e size v n xs := by
  refine ⟨h.1, ?_⟩
  rcases h.2 with hn | ⟨g, cap, cur, hv, hbg, hh, rest⟩
  · exact .inl hn
  · refine .inr ⟨g, cap, cur, hv, hbg, ?_, rest⟩
    rw [hg.block g (Array.getElem?_eq_some_iff.1 hh).1 (fun e => hne g (by rw [hv]; rfl) e.symm)]
    exact hh

section
variable {P : Program} {t e : TypeId} {size bytes : Nat}
set_option maxHeartbeats 800000 in
theorem run_app (A : Ap P t e size bytes) (w wB : World) (ty : TypeId) (hb : Below wB.heap.size wB w) (v : Value) (n : Nat) (xs : List Value) (hown : w.ownsRow wB.heap.size e size v n xs) (a : Option Addr) (m c : Nat) (ys : List Value)
    (hr : Rd w size (.slice a m c) m ys) (h1 : ∀ u ∈ ys, u.oneCell' = true) (h63 : n + m ≤ maxLen) (hbytes : (n + m) * bytes ≤ 140737488355328) :
    ∃ v' w', (Builtin.append_ #[t, t] ty #[v, .slice a m c]).run P w = .ok v' w' ∧ w'.ownsRow wB.heap.size e size v' (n + m) (xs ++ ys) ∧ w.grownBy w' v.ownBlock ∧ Below wB.heap.size wB w' := by
  obtain ⟨i0, z, hu, hi0, hz0, hz1, hz2, hzs, hs0⟩ := A.ok
  have fin : ∀ {v' w'}, w'.ownsRow wB.heap.size e size v' (n + m) (xs ++ ys) → w.grownBy w' v.ownBlock → w'.ownsRow wB.heap.size e size v' (n + m) (xs ++ ys) ∧ w.grownBy w' v.ownBlock ∧ Below wB.heap.size wB w' := by
    intro v' w' h1 h2
    exact ⟨h1, h2, hb.grown h2 hb.size (fun q hq => (owns_lt hown q hq).1)⟩
  obtain ⟨hl, a', c', hv, hc⟩ := hr
  cases hv
  by_cases hm : m = 0
  · subst hm
    have hms : ys = [] := List.eq_nil_of_length_eq_zero (by simpa using hl)
    subst hms
    cases a with
    | none =>
      have hend : w.ownsRow wB.heap.size e size v (n + 0) (xs ++ []) := by
        rw [List.append_nil]; exact hown
      refine ⟨v, w, ?_, fin hend (grown_refl _ _)⟩
      rcases hown.2 with ⟨rfl, rfl⟩ | ⟨g, cap, cur, rfl, _, _, hcap, _⟩
      · simp [Builtin.append_, run_underlying hu, Go.sizeOf, typeInfo, hi0, Builtin.lenOf, Builtin.firstCells]
      · simp [Builtin.append_, run_underlying hu, Go.sizeOf, typeInfo, hi0, Builtin.lenOf, Builtin.firstCells, hcap, storeCells]
    | some ad =>
      obtain ⟨v', w', hrun, ho, hg, _⟩ := run_append_own (P := P) w wB.heap.size t ty e i0 z size bytes hu hi0 hz0 hz1 hz2 hzs hs0 v n _ hown ad 0 c [] hl (by intro j u h; simp at h) h1 h63 hbytes hb.size
      exact ⟨v', w', hrun, fin ho hg⟩
  · obtain ⟨b, o, rfl, hlt, hcell⟩ := hc (by omega)
    obtain ⟨v', w', hrun, ho, hg, _⟩ := run_append_own (P := P) w wB.heap.size t ty e i0 z size bytes hu hi0 hz0 hz1 hz2 hzs hs0 v n _ hown ⟨b, o, none⟩ m c ys hl (fun j u hj => by
      rw [Go.WideShapes.add_plain, hcell j (by rw [← hl]; exact (List.getElem?_eq_some_iff.1 hj).1)]; exact hj) h1 h63 hbytes hb.size
    exact ⟨v', w', hrun, fin ho hg⟩

variable {w : World} {o : Oper} {a : Act} {Q : Exit → Act → World → Prop}
theorem wp_app (A : Ap P t e size bytes) {K : Act → World → Prop} (s x : Operand) (ho : o.op = .call { callee := .builtin .append, args := #[s, x], argTypes := #[t, t] }) (wB : World) (hb : Below wB.heap.size wB w) (v : Value) (n : Nat) (xs : List Value)
    (hs : a.eval s = v) (hown : w.ownsRow wB.heap.size e size v n xs) (ad : Option Addr) (m c : Nat) (ys : List Value) (hx : a.eval x = .slice ad m c)
    (hr : Rd w size (.slice ad m c) m ys) (h1 : ∀ u ∈ ys, u.oneCell' = true) (h63 : n + m ≤ maxLen) (hbytes : (n + m) * bytes ≤ 140737488355328)
    (h : ∀ v' w', w'.ownsRow wB.heap.size e size v' (n + m) (xs ++ ys) → w.grownBy w' v.ownBlock → Below wB.heap.size wB w' → K (a.put o.dst v') w') : o.wp P a w K Q := by
  obtain ⟨v', w', hrun, h2, h3, h4⟩ := run_app A w wB o.type hb v n xs hown ad m c ys hr h1 h63 hbytes
  unfold Oper.wp execOp
  simp only [ho, resolve, invoke, builtin, Sem.run_bind, Sem.run_pure, Result.andThen_ok, List.map_toArray, List.map_cons, List.map_nil, hs, hx, hrun]
  exact h v' w' h2 h3 h4
theorem wpList_app (A : Ap P t e size bytes) {ops : Array Oper} {rest : List Oper} (hgd : Region.wanted o (yielded ops a.tmps) = true) (s x : Operand) (ho : o.op = .call { callee := .builtin .append, args := #[s, x], argTypes := #[t, t] }) (wB : World) (hb : Below wB.heap.size wB w) (v : Value) (n : Nat) (xs : List Value)
    (hs : a.eval s = v) (hown : w.ownsRow wB.heap.size e size v n xs) (ad : Option Addr) (m c : Nat) (ys : List Value) (hx : a.eval x = .slice ad m c)
    (hr : Rd w size (.slice ad m c) m ys) (h1 : ∀ u ∈ ys, u.oneCell' = true) (h63 : n + m ≤ maxLen) (hbytes : (n + m) * bytes ≤ 140737488355328)
    (h : ∀ v' w', w'.ownsRow wB.heap.size e size v' (n + m) (xs ++ ys) → w.grownBy w' v.ownBlock → Below wB.heap.size wB w' → wpList P ops Q rest (a.put o.dst v') w') : wpList P ops Q (o :: rest) a w :=
  BigFrame.wpList_want hgd fun _ hK => wp_app A s x ho wB hb v n xs hs hown ad m c ys hx hr h1 h63 hbytes fun v' w' h2 h3 h4 => hK _ _ (h v' w' h2 h3 h4)
theorem step_app (A : Ap P t e size bytes) {ops : Array Oper} {K : Act → World → Prop} {E : Prop} (hw : Region.wanted o (yielded ops a.tmps) = true) (s x : Operand) (ho : o.op = .call { callee := .builtin .append, args := #[s, x], argTypes := #[t, t] }) (wB : World) (hb : Below wB.heap.size wB w) (v : Value) (n : Nat) (xs : List Value)
    (hs : a.eval s = v) (hown : w.ownsRow wB.heap.size e size v n xs) (ad : Option Addr) (m c : Nat) (ys : List Value) (hx : a.eval x = .slice ad m c)
    (hr : Rd w size (.slice ad m c) m ys) (h1 : ∀ u ∈ ys, u.oneCell' = true) (h63 : n + m ≤ maxLen) (hbytes : (n + m) * bytes ≤ 140737488355328)
    (h : ∀ v' w', w'.ownsRow wB.heap.size e size v' (n + m) (xs ++ ys) → w.grownBy w' v.ownBlock → Below wB.heap.size wB w' → K (a.put o.dst v') w') :
    if Region.wanted o (yielded ops a.tmps) = true then Oper.wp P o a w K Q else E := by
  rw [if_pos hw]
  exact wp_app A s x ho wB hb v n xs hs hown ad m c ys hx hr h1 h63 hbytes h
end
end SlRd
