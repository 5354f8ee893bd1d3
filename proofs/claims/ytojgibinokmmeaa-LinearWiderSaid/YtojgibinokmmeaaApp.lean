/- Appends of whole lists of events, onto a row that the call owns: in a plain list of operations, and at a step of a region that draws its order. -/
import Derived.Test.YtojgibinokmmeaaEvents
import Derived.BigFrame
namespace Go.Proofs.Ytojgibinokmmeaa
open Go.RowKit SlRd Lin
set_option linter.unusedVariables false

theorem flat_len (l : List Lin.Ev) : (l.flatMap Ecs).length = l.length * 8 := flat_length Ecs 8 (fun _ => rfl) l
theorem flat_one (l : List Lin.Ev) : ∀ u ∈ l.flatMap Ecs, u.oneCell' = true := by
  intro u hu
  obtain ⟨x, _, hx⟩ := List.mem_flatMap.1 hu
  exact ev_one x u hx
theorem grown_refl (w : World) (row : Option Nat) : w.grownBy w row := ⟨rfl, rfl, rfl, Nat.le_refl _, fun _ _ _ => rfl⟩
theorem below_of_grown {w w' : World} (h : w.grownBy w' none) : Below w.heap.size w w' := ⟨h.os, h.tape, h.output, h.size, fun k hk => h.block k hk (by simp)⟩

set_option maxHeartbeats 800000 in
theorem run_ev (w wB : World) (ty : TypeId) (hb : Below wB.heap.size wB w) (v : Value) (n : Nat) (ls : List Lin.Ev) (hown : w.ownsRow wB.heap.size 31 8 v n (ls.flatMap Ecs)) (a : Option Addr) (m c : Nat) (ms : List Lin.Ev)
    (hr : Rd w 8 (.slice a m c) m (ms.flatMap Ecs)) (hn : n + m ≤ 100000) :
    ∃ v' w', (Builtin.append_ #[25, 25] ty #[v, .slice a m c]).run Try.prog w = .ok v' w' ∧ w'.ownsRow wB.heap.size 31 8 v' (n + m) ((ls ++ ms).flatMap Ecs) ∧ w.grownBy w' v.ownBlock ∧ Below wB.heap.size wB w' := by
  obtain ⟨i0, hi0, hz0, hz1, hz2⟩ := info_parts info31
  have fin : ∀ {v' w'}, w'.ownsRow wB.heap.size 31 8 v' (n + m) (ls.flatMap Ecs ++ ms.flatMap Ecs) → w.grownBy w' v.ownBlock → w'.ownsRow wB.heap.size 31 8 v' (n + m) ((ls ++ ms).flatMap Ecs) ∧ w.grownBy w' v.ownBlock ∧ Below wB.heap.size wB w' := by
    intro v' w' h1 h2
    exact ⟨by rw [List.flatMap_append]; exact h1, h2, hb.grown h2 hb.size (fun q hq => (owns_lt hown q hq).1)⟩
  obtain ⟨hl, a', c', hv, hc⟩ := hr
  cases hv
  by_cases hm : m = 0
  · subst hm
    have hms : ms.flatMap Ecs = [] := List.eq_nil_of_length_eq_zero (by simpa using hl)
    cases a with
    | none =>
      have hend : w.ownsRow wB.heap.size 31 8 v (n + 0) (ls.flatMap Ecs ++ ms.flatMap Ecs) := by
        rw [hms, List.append_nil]; exact hown
      refine ⟨v, w, ?_, fin hend (grown_refl _ _)⟩
      rcases hown.2 with ⟨rfl, rfl⟩ | ⟨g, cap, cur, rfl, _, _, hcap, _⟩
      · simp [Builtin.append_, run_underlying Try.underlying25, sizeOf, typeInfo, hi0, Builtin.lenOf, Builtin.firstCells]
      · simp [Builtin.append_, run_underlying Try.underlying25, sizeOf, typeInfo, hi0, Builtin.lenOf, Builtin.firstCells, hcap, storeCells]
    | some ad =>
      obtain ⟨v', w', hrun, ho, hg, _⟩ := run_append_own (P := Try.prog) w wB.heap.size 25 ty 31 i0 _ 8 80 Try.underlying25 hi0 hz0 hz1 hz2 rfl (by decide) v n _ hown ad 0 c (ms.flatMap Ecs) hl (by rw [hms]; intro j u h; simp at h) (flat_one ms) (by unfold maxLen; omega) (by omega) hb.size
      exact ⟨v', w', hrun, fin ho hg⟩
  · obtain ⟨b, o, rfl, hlt, hcell⟩ := hc (by omega)
    obtain ⟨v', w', hrun, ho, hg, _⟩ := run_append_own (P := Try.prog) w wB.heap.size 25 ty 31 i0 _ 8 80 Try.underlying25 hi0 hz0 hz1 hz2 rfl (by decide) v n _ hown ⟨b, o, none⟩ m c (ms.flatMap Ecs) hl (fun j u hj => by
      rw [Go.WideShapes.add_plain, hcell j (by rw [← hl]; exact (List.getElem?_eq_some_iff.1 hj).1)]; exact hj) (flat_one ms) (by unfold maxLen; omega) (by omega) hb.size
    exact ⟨v', w', hrun, fin ho hg⟩

section
variable {w : World} {o : Oper} {a : Act} {Q : Exit → Act → World → Prop}
theorem wp_ev {K : Act → World → Prop} (s x : Operand) (ho : o.op = .call { callee := .builtin .append, args := #[s, x], argTypes := #[25, 25] }) (wB : World) (hb : Below wB.heap.size wB w) (v : Value) (n : Nat) (ls : List Lin.Ev)
    (hs : a.eval s = v) (hown : w.ownsRow wB.heap.size 31 8 v n (ls.flatMap Ecs)) (ad : Option Addr) (m c : Nat) (ms : List Lin.Ev) (hx : a.eval x = .slice ad m c)
    (hr : Rd w 8 (.slice ad m c) m (ms.flatMap Ecs)) (hn : n + m ≤ 100000)
    (h : ∀ v' w', w'.ownsRow wB.heap.size 31 8 v' (n + m) ((ls ++ ms).flatMap Ecs) → w.grownBy w' v.ownBlock → Below wB.heap.size wB w' → K (a.put o.dst v') w') : o.wp Try.prog a w K Q := by
  obtain ⟨v', w', hrun, h2, h3, h4⟩ := run_ev w wB o.type hb v n ls hown ad m c ms hr hn
  unfold Oper.wp execOp
  simp only [ho, resolve, invoke, builtin, Sem.run_bind, Sem.run_pure, Result.andThen_ok, List.map_toArray, List.map_cons, List.map_nil, hs, hx, hrun]
  exact h v' w' h2 h3 h4
theorem wpList_ev {ops : Array Oper} {rest : List Oper} (hgd : Region.wanted o (yielded ops a.tmps) = true) (s x : Operand) (ho : o.op = .call { callee := .builtin .append, args := #[s, x], argTypes := #[25, 25] }) (wB : World) (hb : Below wB.heap.size wB w) (v : Value) (n : Nat) (ls : List Lin.Ev)
    (hs : a.eval s = v) (hown : w.ownsRow wB.heap.size 31 8 v n (ls.flatMap Ecs)) (ad : Option Addr) (m c : Nat) (ms : List Lin.Ev) (hx : a.eval x = .slice ad m c)
    (hr : Rd w 8 (.slice ad m c) m (ms.flatMap Ecs)) (hn : n + m ≤ 100000)
    (h : ∀ v' w', w'.ownsRow wB.heap.size 31 8 v' (n + m) ((ls ++ ms).flatMap Ecs) → w.grownBy w' v.ownBlock → Below wB.heap.size wB w' → wpList Try.prog ops Q rest (a.put o.dst v') w') : wpList Try.prog ops Q (o :: rest) a w :=
  BigFrame.wpList_want hgd fun _ hK => wp_ev s x ho wB hb v n ls hs hown ad m c ms hx hr hn fun v' w' h2 h3 h4 => hK _ _ (h v' w' h2 h3 h4)
theorem step_ev {ops : Array Oper} {K : Act → World → Prop} {E : Prop} (hw : Region.wanted o (yielded ops a.tmps) = true) (s x : Operand) (ho : o.op = .call { callee := .builtin .append, args := #[s, x], argTypes := #[25, 25] }) (wB : World) (hb : Below wB.heap.size wB w) (v : Value) (n : Nat) (ls : List Lin.Ev)
    (hs : a.eval s = v) (hown : w.ownsRow wB.heap.size 31 8 v n (ls.flatMap Ecs)) (ad : Option Addr) (m c : Nat) (ms : List Lin.Ev) (hx : a.eval x = .slice ad m c)
    (hr : Rd w 8 (.slice ad m c) m (ms.flatMap Ecs)) (hn : n + m ≤ 100000)
    (h : ∀ v' w', w'.ownsRow wB.heap.size 31 8 v' (n + m) ((ls ++ ms).flatMap Ecs) → w.grownBy w' v.ownBlock → Below wB.heap.size wB w' → K (a.put o.dst v') w') :
    if Region.wanted o (yielded ops a.tmps) = true then Oper.wp Try.prog o a w K Q else E := by
  rw [if_pos hw]
  exact wp_ev s x ho wB hb v n ls hs hown ad m c ms hx hr hn h
end
end Go.Proofs.Ytojgibinokmmeaa
