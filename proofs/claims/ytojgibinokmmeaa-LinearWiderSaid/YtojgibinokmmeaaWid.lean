/- NO PROGRAM. Events that end later or begin earlier: what may be may be still. -/
import Derived.Test.YtojgibinokmmeaaLinQ
namespace Lin
set_option linter.unusedVariables false

theorem wider2 : ∀ (n : Nat) (now : ByteArray) (zs : List (Ev × Ev)), zs.length = n → (∀ z ∈ zs, Wider z.1 z.2) → Plays now (zs.map Prod.fst) → Plays now (zs.map Prod.snd) := by
  intro n
  induction n with
  | zero =>
    intro now zs hn _ h
    have : zs = [] := List.eq_nil_of_length_eq_zero hn
    subst this
    exact h
  | succ n ih =>
    intro now zs hn hw h
    rcases h.inv with h | ⟨x, less, hp, hf, ho, h'⟩
    · refine .done fun y hy => ?_
      obtain ⟨z, hz, rfl⟩ := List.mem_map.1 hy
      rw [(hw z hz).s]
      exact h z.1 (List.mem_map.2 ⟨z, hz, rfl⟩)
    · have hx : x ∈ zs.map Prod.fst := hp.mem_iff.2 (by simp)
      obtain ⟨z, hz, rfl⟩ := List.mem_map.1 hx
      obtain ⟨s, t, rfl⟩ := List.append_of_mem hz
      have hq : (s ++ z :: t).Perm (z :: (s ++ t)) := List.perm_middle
      have hless : ((s ++ t).map Prod.fst).Perm less := by
        have h1 : (z.1 :: (s ++ t).map Prod.fst).Perm (z.1 :: less) := by
          have := hq.map Prod.fst
          rw [List.map_cons] at this
          exact this.symm.trans hp
        exact h1.cons_inv
      have hwz := hw z hz
      have hsub : ∀ y ∈ s ++ t, y ∈ s ++ z :: t := fun y hy => hq.mem_iff.2 (List.mem_cons_of_mem _ hy)
      refine .step z.2 (less := (s ++ t).map Prod.snd) (by have := hq.map Prod.snd; rwa [List.map_cons] at this) (fun y hy hys => ?_) (by rw [hwz.k, hwz.d]; exact ho) ?_
      · obtain ⟨u, hu, rfl⟩ := List.mem_map.1 hy
        have hwu := hw u (hsub u hu)
        rw [hwu.s] at hys
        have h1 := hf u.1 (hless.mem_iff.1 (List.mem_map.2 ⟨u, hu, rfl⟩)) hys
        have h2 := hwu.e hys
        have h3 := hwz.b
        omega
      · have e : next now z.2 = next now z.1 := by unfold next; rw [hwz.k]
        rw [e]
        refine ih _ (s ++ t) ?_ (fun y hy => hw y (hsub y hy)) (h'.perm hless)
        simp at hn ⊢
        omega
/-- wider, and it counts just if it counted -/
def WW (x y : Ev) : Prop := Wider x y ∧ cnt y = cnt x
theorem WW.refl (x : Ev) : WW x x := ⟨⟨rfl, rfl, rfl, Int.le_refl _, fun _ => Int.le_refl _⟩, rfl⟩
def wd (p q : Int) (x : Ev) : Ev := { x with begin_ := x.begin_ - p, end_ := if x.end_ = 0 then 0 else x.end_ + q }
theorem WW.of_wd {x : Ev} {p q : Int} (he : 0 ≤ x.end_) (hp : 0 ≤ p) (hq : 0 ≤ q) : WW x (wd p q x) := by
  have h0 : ((wd p q x).end_ == 0) = (x.end_ == 0) := by
    unfold wd
    simp only
    by_cases h : x.end_ = 0
    · rw [if_pos h, h]
    · rw [if_neg h, Bool.eq_iff_iff]
      simp
      omega
  have h1 : sure (wd p q x) = sure x := by
    unfold sure
    unfold bne
    rw [h0]
    rfl
  refine ⟨⟨h1, rfl, rfl, by simp [wd]; omega, fun hs => ?_⟩, ?_⟩
  · unfold sure at hs
    simp at hs
    unfold wd
    simp only
    rw [if_neg hs.1]
    omega
  · unfold cnt
    rw [h0, h1]
    rfl
/-- a list of which the first k are widened -/
structure UW (l : List Ev) (k : Nat) (ls : List Ev) : Prop where
  n : ls.length = l.length
  w : ∀ (j : Nat) (x y : Ev), l[j]? = some x → ls[j]? = some y → WW x y
  r : ∀ j, k ≤ j → ls[j]? = l[j]?
theorem UW.start (l : List Ev) : UW l 0 l := ⟨rfl, fun j x y h1 h2 => by rw [h1] at h2; cases h2; exact WW.refl x, fun _ _ => rfl⟩
theorem UW.step {l ls : List Ev} {k : Nat} {x y : Ev} (h : UW l k ls) (hx : ls[k]? = some x) (hy : WW x y) : UW l (k + 1) (ls.set k y) := by
  have hlt := (List.getElem?_eq_some_iff.1 hx).1
  have hl := h.r k (Nat.le_refl _)
  rw [hx] at hl
  refine ⟨by rw [List.length_set]; exact h.n, fun j a b ha hb => ?_, fun j hj => ?_⟩
  · rw [List.getElem?_set] at hb
    by_cases e : k = j
    · subst e
      rw [if_pos rfl, if_pos hlt] at hb
      cases hb
      rw [ha] at hl
      cases hl
      exact hy
    · rw [if_neg e] at hb
      exact h.w j a b ha hb
  · rw [List.getElem?_set, if_neg (by omega)]
    exact h.r j (by omega)
theorem UW.zip {l ls : List Ev} {k : Nat} (h : UW l k ls) : ∀ z ∈ l.zip ls, WW z.1 z.2 := by
  intro z hz
  obtain ⟨j, hj, rfl⟩ := List.mem_iff_getElem.1 hz
  rw [List.getElem_zip]
  have h1 : j < l.length := by rw [List.length_zip] at hj; omega
  have h2 : j < ls.length := by rw [List.length_zip] at hj; omega
  exact h.w j _ _ (List.getElem?_eq_getElem h1) (List.getElem?_eq_getElem h2)
theorem UW.chk_ {l ls : List Ev} {k : Nat} (h : UW l k ls) {first : ByteArray} (hc : chk first l = true) : chk first ls = true := by
  have hz := h.zip
  have e1 : (l.zip ls).map Prod.fst = l := List.map_fst_zip (by rw [h.n]; exact Nat.le_refl _)
  have e2 : (l.zip ls).map Prod.snd = ls := List.map_snd_zip (by rw [h.n]; exact Nat.le_refl _)
  generalize l.zip ls = zs at hz e1 e2
  subst e1
  subst e2
  rw [chk_iff] at hc ⊢
  have f1 : (zs.map Prod.fst).filter cnt = (zs.filter fun z => cnt z.1).map Prod.fst := by rw [List.filter_map]; rfl
  have f2 : (zs.map Prod.snd).filter cnt = (zs.filter fun z => cnt z.1).map Prod.snd := by
    rw [List.filter_map]
    congr 1
    apply List.filter_congr
    intro z hz'
    exact (hz z hz').2
  rw [f1, List.length_map] at hc
  rw [f2, List.length_map]
  exact ⟨hc.1, wider2 _ _ _ rfl (fun z hz' => (hz z (List.mem_filter.1 hz').1).1) hc.2⟩
theorem chk_more {l : List Ev} {first : ByteArray} {e : Ev} (hc : chk first l = true) (hl : l.length ≤ 9) (he : e.end_ = 0) : chk first (l ++ [e]) = true := by
  rw [chk_iff] at hc ⊢
  have hs : sure e = false := by unfold sure; rw [he]; rfl
  have hle := List.length_filter_le cnt (l ++ [e])
  rw [List.length_append] at hle
  refine ⟨Nat.le_trans hle (by simp; omega), ?_⟩
  rw [List.filter_append]
  by_cases h : cnt e = true
  · rw [show [e].filter cnt = [e] from by simp [h]]
    exact one_more e hs _ _ _ rfl hc.2
  · rw [show [e].filter cnt = [] from by simp [h], List.append_nil]
    exact hc.2
end Lin
