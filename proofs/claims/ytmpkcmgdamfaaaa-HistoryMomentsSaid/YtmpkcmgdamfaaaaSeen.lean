/- A row of 201 bools: which moments were seen. -/
import Derived.Test.YtmpkcmgdamfaaaaHistP
namespace Go.Proofs.Ytmpkcmgdamfaaaa
open Go.RowKit SlRd
set_option linter.unusedVariables false

def falses : Array Value := Array.replicate 201 (.bool false)
theorem zero44 (w : World) : (zeroValue 44).run Try.prog w = .ok (.agg falses) w := by kernel_rfl
theorem size44 : (Try.prog.info? 44).map (·.size) = some 201 := by kernel_rfl

/-- a row of bools -/
def BoolRow (W : World) (B n : Nat) (f : Nat → Bool) : Prop := ∀ j, j < n → W.cell? ⟨B, j, none⟩ = some (.bool (f j)) ∧ W.frozen? ⟨B, j, none⟩ = false
theorem BoolRow.made (w : World) : BoolRow (w.alloc (.cells falses 44)) w.heap.size 201 fun _ => false := fun j hj => by
  refine ⟨?_, World.frozen?_alloc_at _ _ _ _ rfl⟩
  rw [World.cell?_alloc_at _ _ _ _ rfl]
  unfold falses
  simp [hj]
theorem BoolRow.set {W : World} {B n : Nat} {f : Nat → Bool} (h : BoolRow W B n f) (k : Nat) (hk : k < n) (v : Bool) (g : Nat → Bool) (hg : ∀ j, j < n → (if j = k then v else f j) = g j) : BoolRow (W.setCell ⟨B, k, none⟩ (.bool v)) B n g := fun j hj => by
  refine ⟨?_, (World.frozen?_setCell _ _ _ _).trans (h j hj).2⟩
  rw [← hg j hj]
  by_cases e : j = k
  · subst e
    rw [if_pos rfl]
    exact World.cell?_setCell_same _ _ _ (by rw [(h j hj).1])
  · rw [if_neg e]
    exact (World.cell?_setCell_other W _ _ _ (by simp)).trans (h j hj).1
theorem BoolRow.below {W W' : World} {B n : Nat} {f : Nat → Bool} (h : BoolRow W B n f) (hb : Below W.heap.size W W') (hB : B < W.heap.size) : BoolRow W' B n f := fun j hj =>
  ⟨(hb.cell (p := ⟨B, j, none⟩) hB).trans (h j hj).1, (hb.frozen (p := ⟨B, j, none⟩) hB).trans (h j hj).2⟩

theorem BoolRow.drewN {W : World} {B n : Nat} {f : Nat → Bool} (h : BoolRow W B n f) (k : Nat) : BoolRow (W.drewN k) B n f := fun j hj => h j hj
theorem moments_take (evs : List Ev) (j : Nat) (h : j < evs.length) : moments (evs.take (j + 1)) = moments (evs.take j) ++ (if evs[j].end_ = 0 then [evs[j].begin_] else [evs[j].begin_, evs[j].end_]) := by
  unfold moments
  rw [List.take_succ_eq_append_getElem h, List.flatMap_append, List.flatMap_singleton]
theorem moments_at (evs : List Ev) (hn : (moments evs).Nodup) (j : Nat) (h : j < evs.length) : evs[j].begin_ ∉ moments (evs.take j) ∧ (evs[j].end_ ≠ 0 → evs[j].end_ ∉ moments (evs.take j) ∧ evs[j].end_ ≠ evs[j].begin_) := by
  have e : evs = evs.take (j + 1) ++ evs.drop (j + 1) := (List.take_append_drop _ _).symm
  have e2 : moments evs = moments (evs.take (j + 1)) ++ moments (evs.drop (j + 1)) := by
    conv => lhs; rw [e]
    unfold moments
    rw [List.flatMap_append]
  rw [e2, List.nodup_append] at hn
  have h1 := hn.1
  rw [moments_take evs j h, List.nodup_append] at h1
  obtain ⟨_, h2, h3⟩ := h1
  constructor
  · intro hm
    refine h3 _ hm evs[j].begin_ ?_ rfl
    split <;> simp
  · intro hz
    rw [if_neg hz] at h2 h3
    refine ⟨fun hm => h3 _ hm evs[j].end_ (by simp) rfl, ?_⟩
    simp at h2
    exact fun e => h2 e.symm
end Go.Proofs.Ytmpkcmgdamfaaaa
