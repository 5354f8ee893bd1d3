/- Layer 19, plain: the answer as a Bool; the search by bits. No program in sight. -/
import Derived.Test.YtojgibinokmmeaaLinP
set_option linter.unusedVariables false
namespace Lin
open Go

/-- each one, and the others -/
def picks : List Ev → List (Ev × List Ev)
  | [] => []
  | x :: l => (x, l) :: (picks l).map fun q => (q.1, x :: q.2)
theorem picks_perm : ∀ (l : List Ev) (q : Ev × List Ev), q ∈ picks l → l.Perm (q.1 :: q.2)
  | [], q, h => by cases h
  | x :: l, q, h => by
    rcases List.mem_cons.1 h with rfl | h
    · exact List.Perm.refl _
    · obtain ⟨r, hr, rfl⟩ := List.mem_map.1 h
      exact ((picks_perm l r hr).cons x).trans (List.Perm.swap _ _ _)
theorem picks_mem : ∀ (l : List Ev) (x : Ev), x ∈ l → ∃ less, (x, less) ∈ picks l
  | [], x, h => by cases h
  | y :: l, x, h => by
    rcases List.mem_cons.1 h with rfl | h
    · exact ⟨l, by simp [picks]⟩
    · obtain ⟨less, hl⟩ := picks_mem l x h
      exact ⟨y :: less, by simp only [picks, List.mem_cons, List.mem_map]; exact .inr ⟨_, hl, rfl⟩⟩
def plB : Nat → ByteArray → List Ev → Bool
  | 0, _, l => l.all fun y => !sure y
  | n + 1, now, l => (l.all fun y => !sure y) || (picks l).any fun q => (q.2.all fun y => !(sure y && decide (y.end_ < q.1.begin_))) && (decide (q.1.op.kind = 2) || decide (q.1.data = now)) && plB n (next now q.1) q.2
theorem plB_iff : ∀ (n : Nat) (now : ByteArray) (l : List Ev), l.length ≤ n → (plB n now l = true ↔ Plays now l)
  | 0, now, l, h => by
    have : l = [] := List.eq_nil_of_length_eq_zero (by omega)
    subst this
    exact ⟨fun _ => .done (by simp), fun _ => by simp [plB]⟩
  | n + 1, now, l, h => by
    constructor
    · intro hp
      simp only [plB, Bool.or_eq_true, List.any_eq_true, Bool.and_eq_true, List.all_eq_true, Bool.not_eq_true', decide_eq_true_eq] at hp
      rcases hp with hp | ⟨q, hq, ⟨hf, ho⟩, hr⟩
      · exact .done hp
      · have hperm := picks_perm l q hq
        have hlen := hperm.length_eq
        simp at hlen
        refine .step q.1 hperm (fun y hy hys hlt => ?_) ho ((plB_iff n _ _ (by omega)).1 hr)
        have := hf y hy
        rw [hys] at this
        simp [hlt] at this
    · intro hp
      simp only [plB, Bool.or_eq_true, List.any_eq_true, Bool.and_eq_true, List.all_eq_true, Bool.not_eq_true', decide_eq_true_eq]
      rcases hp.inv with h0 | ⟨x, less, hq, hf, ho, hr⟩
      · exact .inl h0
      · right
        obtain ⟨less', hl⟩ := picks_mem l x (hq.mem_iff.2 (by simp))
        have hperm := picks_perm l _ hl
        have he : less'.Perm less := (hperm.symm.trans hq).cons_inv
        have hlen := hperm.length_eq
        simp at hlen
        refine ⟨_, hl, ⟨fun y hy => ?_, ho⟩, (plB_iff n _ _ (by simp only; omega)).2 (hr.perm he)⟩
        cases hys : sure y
        · rfl
        · have := hf y (he.mem_iff.1 hy) hys
          simp [this]
/-- layer 19's answer -/
def chk (first : ByteArray) (l : List Ev) : Bool := decide ((l.filter cnt).length ≤ 12) && plB 12 first (l.filter cnt)
theorem chk_iff (first : ByteArray) (l : List Ev) : chk first l = true ↔ (l.filter cnt).length ≤ 12 ∧ Plays first (l.filter cnt) := by
  unfold chk
  rw [Bool.and_eq_true, decide_eq_true_eq]
  constructor
  · rintro ⟨a, b⟩
    exact ⟨a, (plB_iff 12 first _ a).1 b⟩
  · rintro ⟨a, b⟩
    exact ⟨a, (plB_iff 12 first _ a).2 b⟩

/-! the search by bits -/
def restI (p n : Nat) : List Nat := (List.range n).filter fun i => !p.testBit i
def rest (l : List Ev) (p : Nat) : List Ev := (restI p l.length).map fun i => l.getD i default
theorem mem_restI {p n i : Nat} : i ∈ restI p n ↔ i < n ∧ p.testBit i = false := by simp [restI]
theorem restI_zero (n : Nat) : restI 0 n = List.range n := by simp [restI]
theorem rest_zero (l : List Ev) : rest l 0 = l := by
  unfold rest
  rw [restI_zero]
  apply List.ext_getElem
  · simp
  · intro i h1 h2
    simp [List.getD_eq_getElem?_getD, h2]
theorem restI_place {p n i : Nat} (hi : i < n) (hp : p.testBit i = false) : (restI p n).Perm (i :: restI (p ||| 2 ^ i) n) := by
  have h1 : restI (p ||| 2 ^ i) n = (restI p n).filter fun j => j != i := by
    unfold restI
    rw [List.filter_filter]
    apply List.filter_congr
    intro j hj
    rw [Nat.testBit_or, Nat.testBit_two_pow]
    by_cases e : j = i
    · subst e; simp [hp]
    · have e' : ¬ i = j := fun h => e h.symm
      simp [e, e']
  have hn : (restI p n).Nodup := (List.nodup_range).filter _
  rw [h1, ← List.Nodup.erase_eq_filter hn]
  exact List.perm_cons_erase (mem_restI.2 ⟨hi, hp⟩)
theorem rest_place {l : List Ev} {p i : Nat} (hi : i < l.length) (hp : p.testBit i = false) : (rest l p).Perm (l.getD i default :: rest l (p ||| 2 ^ i)) :=
  (restI_place hi hp).map _
theorem rest_length_place {l : List Ev} {p i : Nat} (hi : i < l.length) (hp : p.testBit i = false) : (rest l p).length = (rest l (p ||| 2 ^ i)).length + 1 := (rest_place hi hp).length_eq
/-- which are sure, bit by bit -/
structure Bits (l : List Ev) (S : Nat) : Prop where
  b : ∀ j, S.testBit j = (decide (j < l.length) && sure (l.getD j default))
theorem all_placed {l : List Ev} {S p : Nat} (hS : Bits l S) : p &&& S = S ↔ ∀ y ∈ rest l p, sure y = false := by
  constructor
  · intro h y hy
    obtain ⟨i, hi, rfl⟩ := List.mem_map.1 hy
    obtain ⟨h1, h2⟩ := mem_restI.1 hi
    have hb := hS.b i
    have : (p &&& S).testBit i = S.testBit i := by rw [h]
    rw [Nat.testBit_and, h2, hb] at this
    simpa [h1] using this.symm
  · intro h
    apply Nat.eq_of_testBit_eq
    intro i
    rw [Nat.testBit_and, hS.b i]
    by_cases h1 : i < l.length
    · cases h2 : p.testBit i
      · have := h (l.getD i default) (List.mem_map.2 ⟨i, mem_restI.2 ⟨h1, h2⟩, rfl⟩)
        rw [this]
        simp
      · simp
    · simp [h1]
/-- may the i-th stand ahead of all that are not placed? -/
def freeB (l : List Ev) (S p i : Nat) : Bool := (List.range l.length).all fun j => !(decide (j ≠ i) && ((S.testBit j && !p.testBit j) && decide ((l.getD j default).end_ < (l.getD i default).begin_)))
def bears (first : ByteArray) (l : List Ev) (la : Int) : ByteArray := if la < 0 then first else (l.getD la.toNat default).op.data
def Good (first : ByteArray) (l : List Ev) (p : Nat) (la : Int) : Prop := Plays (bears first l la) (rest l p)
theorem free_iff {l : List Ev} {S p i : Nat} (hS : Bits l S) (hi : i < l.length) (hp : p.testBit i = false) :
    freeB l S p i = true ↔ ∀ y ∈ rest l (p ||| 2 ^ i), sure y = true → ¬ y.end_ < (l.getD i default).begin_ := by
  unfold freeB
  rw [List.all_eq_true]
  constructor
  · intro h y hy hys hlt
    obtain ⟨j, hj, rfl⟩ := List.mem_map.1 hy
    obtain ⟨h1, h2⟩ := mem_restI.1 hj
    rw [Nat.testBit_or, Nat.testBit_two_pow] at h2
    simp only [Bool.or_eq_false_iff, decide_eq_false_iff_not] at h2
    have := h j (by simpa using h1)
    rw [hS.b j, hys, h2.1] at this
    have hne : j ≠ i := fun e => h2.2 e.symm
    rw [decide_eq_true hne, decide_eq_true h1, decide_eq_true hlt] at this
    simp at this
  · intro h j hj
    have h1 : j < l.length := by simpa using hj
    by_cases e : j = i
    · simp [e]
    · cases hs : S.testBit j
      · simp
      · cases hpj : p.testBit j
        · have hsj : sure (l.getD j default) = true := by
            have := hS.b j
            rw [hs] at this
            simpa [h1] using this.symm
          have hm : l.getD j default ∈ rest l (p ||| 2 ^ i) := List.mem_map.2 ⟨j, mem_restI.2 ⟨h1, by
            rw [Nat.testBit_or, Nat.testBit_two_pow, hpj]
            have : ¬ i = j := fun h => e h.symm
            simp [this]⟩, rfl⟩
          have := h _ hm hsj
          rw [decide_eq_false this]
          simp
        · simp
def nextLa (l : List Ev) (la : Int) (i : Nat) : Int := if (l.getD i default).op.kind = 2 then i else la
theorem bears_next {first : ByteArray} {l : List Ev} {la : Int} {i : Nat} (hi : i < l.length) : bears first l (nextLa l la i) = next (bears first l la) (l.getD i default) := by
  unfold nextLa next
  split
  · unfold bears
    rw [if_neg (by omega)]
    simp
  · rfl
theorem good_done {first : ByteArray} {l : List Ev} {S p : Nat} {la : Int} (hS : Bits l S) (h : p &&& S = S) : Good first l p la := .done ((all_placed hS).1 h)
/-- may the i-th come next, and is all good then? -/
def Way (first : ByteArray) (l : List Ev) (S p : Nat) (la : Int) (i : Nat) : Prop :=
  p.testBit i = false ∧ freeB l S p i = true ∧ ((l.getD i default).op.kind = 2 ∨ (l.getD i default).data = bears first l la) ∧ Good first l (p ||| 2 ^ i) (nextLa l la i)
theorem good_step {first : ByteArray} {l : List Ev} {S p : Nat} {la : Int} {i : Nat} (hS : Bits l S) (hi : i < l.length) (h : Way first l S p la i) : Good first l p la := by
  obtain ⟨h1, h2, h3, h4⟩ := h
  refine .step _ (rest_place hi h1) ((free_iff hS hi h1).1 h2) h3 ?_
  unfold Good at h4
  rw [bears_next hi] at h4
  exact h4
theorem good_not {first : ByteArray} {l : List Ev} {S p : Nat} {la : Int} (hS : Bits l S) (h : ¬ p &&& S = S) (hw : ∀ i, i < l.length → ¬ Way first l S p la i) : ¬ Good first l p la := by
  intro hg
  rcases Plays.inv hg with h0 | ⟨x, less, hq, hf, ho, hr⟩
  · exact h ((all_placed hS).2 h0)
  · obtain ⟨i, hi, rfl⟩ := List.mem_map.1 (hq.mem_iff.2 (show x ∈ x :: less by simp))
    obtain ⟨h1, h2⟩ := mem_restI.1 hi
    have he : less.Perm (rest l (p ||| 2 ^ i)) := (hq.symm.trans (rest_place h1 h2)).cons_inv
    refine hw i h1 ⟨h2, (free_iff hS h1 h2).2 fun y hy hys => hf y (he.mem_iff.2 hy) hys, ho, ?_⟩
    unfold Good
    rw [bears_next h1]
    exact hr.perm he.symm
theorem rest_le (l : List Ev) (p : Nat) : (rest l p).length ≤ l.length := by
  unfold rest restI
  rw [List.length_map]
  have := List.length_filter_le (fun i => !p.testBit i) (List.range l.length)
  simpa using this
theorem place_lt {p i : Nat} (hp : p < 2 ^ 12) (hi : i < 12) : p ||| 2 ^ i < 2 ^ 12 := Nat.or_lt_two_pow hp (Nat.pow_lt_pow_right (by omega) hi)
end Lin
