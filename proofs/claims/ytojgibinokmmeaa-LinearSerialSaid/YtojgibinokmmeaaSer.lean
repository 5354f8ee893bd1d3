/- NO PROGRAM. Events one behind the other: what they tell is what the last write wrote. -/
import Derived.Test.YtojgibinokmmeaaLinQ
namespace Lin
set_option linter.unusedVariables false

/-- each tells what the last write wrote -/
def Runs : ByteArray → List Ev → Prop
  | _, [] => True
  | now, x :: xs => (x.op.kind = 2 ∨ x.data = now) ∧ Runs (next now x) xs
def last (now : ByteArray) (l : List Ev) : ByteArray := l.foldl next now
/-- one behind the other, and each of them sure -/
structure Ord (l : List Ev) : Prop where
  p : l.Pairwise fun x y => x.end_ < y.begin_
  s : ∀ x ∈ l, sure x = true ∧ x.begin_ ≤ x.end_
theorem Ord.nil : Ord [] := ⟨List.Pairwise.nil, fun x h => by cases h⟩
theorem Ord.snoc {l : List Ev} {x : Ev} (h : Ord l) (hs : sure x = true) (hb : x.begin_ ≤ x.end_) (hl : ∀ y ∈ l, y.end_ < x.begin_) : Ord (l ++ [x]) := by
  refine ⟨List.pairwise_append.2 ⟨h.p, List.pairwise_singleton _ _, fun a ha b hb => ?_⟩, fun y hy => ?_⟩
  · simp at hb
    subst hb
    exact hl a ha
  · rcases List.mem_append.1 hy with h1 | h1
    · exact h.s y h1
    · simp at h1
      subst h1
      exact ⟨hs, hb⟩
theorem plays_runs : ∀ (l : List Ev) (now : ByteArray), Ord l → (Plays now l ↔ Runs now l)
  | [], now, _ => ⟨fun _ => trivial, fun _ => .done (by simp)⟩
  | x :: xs, now, h => by
    obtain ⟨hp1, hp2⟩ := List.pairwise_cons.1 h.p
    have hx := h.s x (by simp)
    have ih := plays_runs xs (next now x) ⟨hp2, fun y hy => h.s y (List.mem_cons_of_mem _ hy)⟩
    rw [plays_first hx.1 hp1 (fun y hy _ hlt => by
      have h1 := hp1 y hy
      have h2 := (h.s y (List.mem_cons_of_mem _ hy)).2
      have h3 := hx.2
      omega)]
    unfold Runs
    rw [ih]
theorem runs_snoc (x : Ev) : ∀ (l : List Ev) (now : ByteArray), Runs now (l ++ [x]) ↔ Runs now l ∧ (x.op.kind = 2 ∨ x.data = last now l)
  | [], now => by simp [Runs, last]
  | y :: l, now => by
    rw [List.cons_append]
    unfold Runs
    rw [runs_snoc x l]
    unfold last
    rw [List.foldl_cons, and_assoc]
theorem last_snoc (now : ByteArray) (l : List Ev) (x : Ev) : last now (l ++ [x]) = next (last now l) x := by
  unfold last
  rw [List.foldl_append]
  rfl
/-- if one read tells what it was not, it runs no more -/
theorem runs_other : ∀ (l : List Ev) (now : ByteArray) (i : Nat) (x y : Ev), l[i]? = some x → x.op.kind ≠ 2 → y.op = x.op → y.data ≠ x.data → Runs now l → ¬ Runs now (l.set i y)
  | [], now, i, x, y, h, _, _, _, _ => by simp at h
  | z :: l, now, 0, x, y, h, hk, ho, hd, hr => by
    simp only [List.getElem?_cons_zero, Option.some.injEq] at h
    subst h
    rw [List.set_cons_zero]
    unfold Runs at hr ⊢
    rintro ⟨h1, _⟩
    rw [ho] at h1
    rcases h1 with h1 | h1
    · exact hk h1
    · rcases hr.1 with h2 | h2
      · exact hk h2
      · exact hd (by rw [h1, h2])
  | z :: l, now, i + 1, x, y, h, hk, ho, hd, hr => by
    rw [List.getElem?_cons_succ] at h
    rw [List.set_cons_succ]
    unfold Runs at hr ⊢
    rintro ⟨_, h2⟩
    exact runs_other l _ i x y h hk ho hd hr.2 h2
theorem Ord.set {l : List Ev} {i : Nat} {x y : Ev} (h : Ord l) (hx : l[i]? = some x) (hb : y.begin_ = x.begin_) (he : y.end_ = x.end_) (hr : y.err = x.err) : Ord (l.set i y) := by
  obtain ⟨hi, hxe⟩ := List.getElem?_eq_some_iff.1 hx
  refine ⟨?_, fun z hz => ?_⟩
  · rw [List.pairwise_iff_getElem]
    intro a b ha hb' hab
    rw [List.length_set] at ha hb'
    have := List.pairwise_iff_getElem.1 h.p a b ha hb' hab
    rw [List.getElem_set, List.getElem_set]
    by_cases e1 : i = a
    · subst e1
      rw [if_pos rfl, if_neg (by omega), he, ← hxe]
      exact this
    · rw [if_neg e1]
      by_cases e2 : i = b
      · subst e2
        rw [if_pos rfl, hb, ← hxe]
        exact this
      · rw [if_neg e2]
        exact this
  · rcases List.mem_or_eq_of_mem_set hz with h1 | rfl
    · exact h.s z h1
    · have := h.s x (by rw [← hxe]; exact List.getElem_mem hi)
      refine ⟨?_, by rw [hb, he]; exact this.2⟩
      unfold sure at this ⊢
      rw [he, hr]
      exact this.1
theorem cnt_of_sure {x : Ev} (h : sure x = true) (hk : x.op.kind = 1 ∨ x.op.kind = 2) : cnt x = true := by
  unfold cnt
  rcases hk with hk | hk
  · rw [if_pos hk, h]
  · rw [if_neg (by omega), hk]
    unfold sure at h
    simp at h
    simp [h.2]
theorem chk_ord {l : List Ev} (first : ByteArray) (h : Ord l) (hk : ∀ x ∈ l, x.op.kind = 1 ∨ x.op.kind = 2) (F : List Ev) (hF : ∀ x ∈ F, cnt x = false) (G : List Ev) (hG : Ord (l ++ G)) (hkG : ∀ x ∈ G, x.op.kind = 1 ∨ x.op.kind = 2) :
    chk first (l ++ F ++ G) = true ↔ (l ++ G).length ≤ 12 ∧ Runs first (l ++ G) := by
  have hf : (l ++ F ++ G).filter cnt = l ++ G := by
    rw [List.filter_append, List.filter_append]
    have h1 : l.filter cnt = l := List.filter_eq_self.2 fun x hx => cnt_of_sure (h.s x hx).1 (hk x hx)
    have h2 : F.filter cnt = [] := List.filter_eq_nil_iff.2 fun x hx => by rw [hF x hx]; simp
    have h3 : G.filter cnt = G := List.filter_eq_self.2 fun x hx => cnt_of_sure (hG.s x (List.mem_append_right _ hx)).1 (hkG x hx)
    rw [h1, h2, h3, List.append_nil]
  rw [chk_iff, hf, plays_runs _ _ hG]
end Lin
