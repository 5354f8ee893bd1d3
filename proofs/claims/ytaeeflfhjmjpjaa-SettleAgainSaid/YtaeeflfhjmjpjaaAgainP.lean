/- Plain facts: to settle in part, and then again, comes to the same. -/
import Derived.Test.YtaeeflfhjmjpjaaEndsR
namespace Go.Proofs.Ytaeeflfhjmjpjaa
open Go.RowKit SlRd
set_option linter.unusedVariables false

/-- columns of one update: its mask is the same in all that have it open -/
structure One (kn : List Bool) (l : List Rc) (M : Int) : Prop where
  len : kn.length = l.length
  six : l.length ≤ 6
  rok : ∀ r ∈ l, ROk r
  opn : ∀ r ∈ l, r.op = true → r.done ≠ ⟨3, 1⟩ ∧ r.intent = ⟨3, 1⟩ ∧ r.mask = M
theorem getD_in {kn : List Bool} {l : List Rc} {M : Int} (h : One kn l M) {c : Nat} (hc : c < l.length) (ho : (l.getD c default).op = true) :
    (l.getD c default).done ≠ ⟨3, 1⟩ ∧ (l.getD c default).intent = ⟨3, 1⟩ ∧ (l.getD c default).mask = M := h.opn _ (getD_mem hc) ho
theorem getD_eq_of {L : List Rc} {c : Nat} (hc : c < L.length) : L[c] = L.getD c default := by
  rw [List.getD_eq_getElem?_getD, List.getElem?_eq_getElem hc]; rfl
/-- what a column is behind the first k asks -/
theorem part_at {kn : List Bool} {l : List Rc} {M : Int} (h : One kn l M) (k : Nat) (hk : k ≤ (asked kn l).length) (c : Nat) (hc : c < l.length) :
    (partS kn l k).getD c default = if c ∈ (asked kn l).take k then sS (FW kn l ⟨3, 1⟩ M) (l.getD c default) else l.getD c default := by
  rw [partS_at h.len h.six k hk c hc]
  split
  · rename_i hm
    obtain ⟨h1, h2, h3⟩ := (mem_asked h.len h.six c).1 (List.mem_of_mem_take hm)
    obtain ⟨_, hi, hM⟩ := getD_in h hc h3
    rw [hi, hM]
  · rfl
theorem dP_iff (t : Tg) (r : Rc) : doneP t r = true ↔ r.done = t := by
  obtain ⟨u, f, ⟨de, ds⟩, b, o, i, m, s⟩ := r
  obtain ⟨te, ts⟩ := t
  unfold doneP
  simp
theorem oP_iff (t : Tg) (r : Rc) : openP t r = true ↔ r.op = true ∧ r.intent = t := by
  obtain ⟨u, f, d, b, o, ⟨ie, is⟩, m, s⟩ := r
  obtain ⟨te, ts⟩ := t
  unfold openP
  simp

theorem any_none {p : Nat → Bool} {l : List Nat} (h : ∀ i ∈ l, p i = false) : l.any p = false := by
  rw [Bool.eq_false_iff]
  intro hh
  obtain ⟨i, hi, hp⟩ := List.any_eq_true.1 hh
  rw [h i hi] at hp
  cases hp
theorem TK_lt {kn : List Bool} {m : Int} {n i : Nat} (h : i ∈ TK kn m n) : i < n := by
  unfold TK at h
  exact List.mem_range.1 (List.mem_filter.1 h).1
theorem sS_op (F : Bool) (r : Rc) : (sS F r).op = false := by unfold sS; cases F <;> rfl
theorem FW_part {kn : List Bool} {l : List Rc} {M : Int} (h : One kn l M) (k : Nat) (hk : k ≤ (asked kn l).length) : FW kn (partS kn l k) ⟨3, 1⟩ M = FW kn l ⟨3, 1⟩ M := by
  have hP : kn.length = (partS kn l k).length := by rw [partS_len]; exact h.len
  have hP6 : (partS kn l k).length ≤ 6 := by rw [partS_len]; exact h.six
  have hat := fun c hc => part_at h k hk c hc
  have e1 := FW_is h.len h.six ⟨3, 1⟩ M
  rw [FW_is hP hP6, partS_len]
  have hask : ∀ c, c ∈ (asked kn l).take k → c < l.length ∧ (l.getD c default).op = true := fun c hc => by
    obtain ⟨h1, _, h3⟩ := (mem_asked h.len h.six c).1 (List.mem_of_mem_take hc)
    exact ⟨h1, h3⟩
  cases hF : FW kn l ⟨3, 1⟩ M
  · rw [hF] at e1 hat
    have hd : dD kn l ⟨3, 1⟩ M l.length = false := by
      cases hh : dD kn l ⟨3, 1⟩ M l.length
      · rfl
      · rw [hh] at e1; cases e1
    have hdP : dD kn (partS kn l k) ⟨3, 1⟩ M l.length = false := any_none fun i hi => by
      have hlt := TK_lt hi
      have h0 : doneP ⟨3, 1⟩ (l.getD i default) = false := by
        cases hh : doneP ⟨3, 1⟩ (l.getD i default)
        · rfl
        · have : dD kn l ⟨3, 1⟩ M l.length = true := List.any_eq_true.2 ⟨i, hi, hh⟩
          rw [hd] at this; cases this
      rw [hat i hlt]
      split
      · exact h0
      · exact h0
    rw [hdP]
    rw [hd] at e1
    cases hs : dS kn M l.length
    · rfl
    · rw [hs] at e1
      have hl : dL kn l ⟨3, 1⟩ M l.length = true := by
        cases hh : dL kn l ⟨3, 1⟩ M l.length
        · rw [hh] at e1; cases e1
        · rfl
      obtain ⟨i, hi, ho⟩ := List.any_eq_true.1 hl
      have : dL kn (partS kn l k) ⟨3, 1⟩ M l.length = true := List.any_eq_true.2 ⟨i, hi, by
        rw [hat i (TK_lt hi)]
        split
        · unfold openP; rw [sS_op]; rfl
        · exact ho⟩
      rw [this]
      rfl
  · rw [hF] at e1 hat
    by_cases hex : ∃ i, i ∈ TK kn M l.length ∧ doneP ⟨3, 1⟩ ((partS kn l k).getD i default) = true
    · obtain ⟨i, hi, hd⟩ := hex
      have : dD kn (partS kn l k) ⟨3, 1⟩ M l.length = true := List.any_eq_true.2 ⟨i, hi, hd⟩
      rw [this]; rfl
    · have hno : ∀ i ∈ TK kn M l.length, (partS kn l k).getD i default = l.getD i default := fun i hi => by
        have hlt := TK_lt hi
        by_cases hm : i ∈ (asked kn l).take k
        · exfalso
          apply hex
          refine ⟨i, hi, ?_⟩
          rw [hat i hlt, if_pos hm, dP_iff]
          obtain ⟨_, hin, _⟩ := getD_in h hlt (hask i hm).2
          show (finR (l.getD i default)).done = _
          exact hin
        · rw [hat i hlt, if_neg hm]
      have a1 : dD kn (partS kn l k) ⟨3, 1⟩ M l.length = dD kn l ⟨3, 1⟩ M l.length := by
        unfold dD
        rw [Bool.eq_iff_iff, List.any_eq_true, List.any_eq_true]
        exact ⟨fun ⟨i, hi, hh⟩ => ⟨i, hi, by rw [← hno i hi]; exact hh⟩, fun ⟨i, hi, hh⟩ => ⟨i, hi, by rw [hno i hi]; exact hh⟩⟩
      have a2 : dL kn (partS kn l k) ⟨3, 1⟩ M l.length = dL kn l ⟨3, 1⟩ M l.length := by
        unfold dL
        rw [Bool.eq_iff_iff, List.any_eq_true, List.any_eq_true]
        exact ⟨fun ⟨i, hi, hh⟩ => ⟨i, hi, by rw [← hno i hi]; exact hh⟩, fun ⟨i, hi, hh⟩ => ⟨i, hi, by rw [hno i hi]; exact hh⟩⟩
      rw [a1, a2, ← e1]
theorem one_part {kn : List Bool} {l : List Rc} {M : Int} (h : One kn l M) (k : Nat) (hk : k ≤ (asked kn l).length) (hok : ∀ q ∈ (asked kn l).map (askOf kn l 1 5), QOk q) : One kn (partS kn l k) M := by
  refine ⟨by rw [partS_len]; exact h.len, by rw [partS_len]; exact h.six, foldS_ok _ _ h.rok k, ?_⟩
  intro r hr ho
  obtain ⟨c, hc, rfl⟩ := List.mem_iff_getElem.1 hr
  have hc' : c < l.length := by rw [partS_len] at hc; exact hc
  rw [getD_eq_of hc, part_at h k hk c hc'] at ho ⊢
  split at ho
  · rw [sS_op] at ho; cases ho
  · rename_i hm
    rw [if_neg hm]
    exact getD_in h hc' ho
theorem qok_one {kn : List Bool} {l : List Rc} {M : Int} (h : One kn l M) : ∀ q ∈ (asked kn l).map (askOf kn l 1 5), QOk q := by
  intro q hq
  obtain ⟨c, hc, rfl⟩ := List.mem_map.1 hq
  obtain ⟨h1, _, h3⟩ := (mem_asked h.len h.six c).1 hc
  obtain ⟨_, hi, _⟩ := getD_in h h1 h3
  refine ⟨_, _, rfl, ?_, ?_⟩
  · cases FW kn l (l.getD c default).intent (l.getD c default).mask
    · exact .inl rfl
    · exact .inr rfl
  · rw [hi]
    exact ⟨by show (0 : Int) ≤ 3; omega, by show (3 : Int) < 5; omega, by show (0 : Int) ≤ 1; omega, by show (1 : Int) ≤ 16777215; omega⟩
/-- to settle in part, and then again, comes to the same -/
theorem again_same {kn : List Bool} {l : List Rc} {M : Int} (h : One kn l M) (k : Nat) (hk : k ≤ (asked kn l).length) :
    partS kn (partS kn l k) (asked kn (partS kn l k)).length = partS kn l (asked kn l).length := by
  have hO := one_part h k hk (qok_one h)
  have e : (partS kn (partS kn l k) (asked kn (partS kn l k)).length).length = (partS kn l (asked kn l).length).length := by rw [partS_len, partS_len, partS_len]
  apply List.ext_getElem e
  intro c h1 h2
  have hc : c < l.length := by rw [partS_len] at h2; exact h2
  have hcP : c < (partS kn l k).length := by rw [partS_len]; exact hc
  rw [getD_eq_of h1, getD_eq_of h2, wholeS_at hO.len hO.six c hcP, wholeS_at h.len h.six c hc]
  have hat := part_at h k hk c hc
  by_cases hm : c ∈ (asked kn l).take k
  · obtain ⟨_, hk2, h3⟩ := (mem_asked h.len h.six c).1 (List.mem_of_mem_take hm)
    obtain ⟨_, hi, hM⟩ := getD_in h hc h3
    rw [if_pos hm] at hat
    rw [hat, sS_op, Bool.and_false, if_neg (by simp), hk2, h3, Bool.and_self, if_pos rfl, hi, hM]
  · rw [if_neg hm] at hat
    rw [hat]
    by_cases hh : (kn.getD c false && (l.getD c default).op) = true
    · have h3 := ((Bool.and_eq_true _ _).mp hh).2
      obtain ⟨_, hi, hM⟩ := getD_in h hc h3
      rw [if_pos hh, if_pos hh, hi, hM, FW_part h k hk]
    · rw [if_neg hh, if_neg hh]
end Go.Proofs.Ytaeeflfhjmjpjaa
