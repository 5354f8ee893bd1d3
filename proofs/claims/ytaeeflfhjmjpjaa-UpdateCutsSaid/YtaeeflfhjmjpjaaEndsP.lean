/- Plain facts: what columns are behind the asks to settle. -/
import Derived.Test.YtaeeflfhjmjpjaaSettled
namespace Go.Proofs.Ytaeeflfhjmjpjaa
open Go.RowKit SlRd
set_option linter.unusedVariables false

def sS (F : Bool) (r : Rc) : Rc := if F then finR r else shutR r
theorem fold_at (l : List Rc) (cs : List Nat) (A : Nat → Ak) (hn : cs.Nodup) : ∀ (k : Nat), k ≤ cs.length → ∀ c, c < l.length → (foldS l cs (cs.map A) k).getD c default = if c ∈ cs.take k then settleR (l.getD c default) (A c).mask (A c).old else l.getD c default
  | 0, _, c, hc => by simp [foldS]
  | k + 1, hk, c, hc => by
    have hkl : k < cs.length := hk
    have e1 : cs.getD k 0 = cs[k] := by rw [List.getD_eq_getElem?_getD, List.getElem?_eq_getElem hkl]; rfl
    have e2 : (cs.map A).getD k default = A cs[k] := by rw [List.getD_eq_getElem?_getD, List.getElem?_map, List.getElem?_eq_getElem hkl]; rfl
    rw [foldS_succ, e1, e2]
    unfold stepS
    have ih := fold_at l cs A hn k (by omega)
    have hlen := foldS_len l cs (cs.map A) k
    have hnot : cs[k] ∉ cs.take k := by
      intro hm
      obtain ⟨i, hi, he⟩ := List.mem_iff_getElem.1 hm
      rw [List.length_take] at hi
      rw [List.getElem_take] at he
      exact (List.pairwise_iff_getElem.1 hn) i k (by omega) hkl (by omega) he
    rw [List.take_succ_eq_append_getElem hkl]
    by_cases e : c = cs[k]
    · have h0 := ih c hc
      rw [if_neg (by rw [e]; exact hnot)] at h0
      rw [if_pos (by rw [e]; exact List.mem_append_right _ (List.mem_singleton.2 rfl)), List.getD_eq_getElem?_getD, ← e, List.getElem?_set_self (by rw [hlen]; exact hc)]
      show settleR _ _ _ = _
      rw [h0]
    · have h0 := ih c hc
      rw [List.getD_eq_getElem?_getD, List.getElem?_set_ne (Ne.symm e), ← List.getD_eq_getElem?_getD, h0]
      have : (c ∈ cs.take k ++ [cs[k]]) ↔ c ∈ cs.take k := by rw [List.mem_append, List.mem_singleton]; exact or_iff_left e
      simp only [this]
theorem asked_nodup (kn : List Bool) (l : List Rc) : (asked kn l).Nodup := by
  unfold asked yes cols TK
  exact (List.nodup_range.filter _).filter _
theorem mem_asked {kn : List Bool} {l : List Rc} (h : kn.length = l.length) (h6 : l.length ≤ 6) (c : Nat) : c ∈ asked kn l ↔ c < l.length ∧ kn.getD c false = true ∧ (l.getD c default).op = true := by
  rw [asked_eq h h6]
  unfold ASK askP
  rw [List.mem_filter, List.mem_range, Bool.and_eq_true]
theorem settle_asked {kn : List Bool} {l : List Rc} (a b : Int) {c : Nat} (ho : (l.getD c default).op = true) :
    settleR (l.getD c default) (askOf kn l a b c).mask (askOf kn l a b c).old = sS (FW kn l (l.getD c default).intent (l.getD c default).mask) (l.getD c default) := by
  unfold settleR askOf sS
  simp only [ho, beq_self_eq_true, Bool.and_self, if_true]
  cases FW kn l (l.getD c default).intent (l.getD c default).mask <;> rfl
/-- the columns behind the first k asks -/
def partS (kn : List Bool) (l : List Rc) (k : Nat) : List Rc := foldS l (asked kn l) ((asked kn l).map (askOf kn l 1 5)) k
theorem partS_len (kn : List Bool) (l : List Rc) (k : Nat) : (partS kn l k).length = l.length := foldS_len _ _ _ _
theorem partS_at {kn : List Bool} {l : List Rc} (h : kn.length = l.length) (h6 : l.length ≤ 6) (k : Nat) (hk : k ≤ (asked kn l).length) (c : Nat) (hc : c < l.length) :
    (partS kn l k).getD c default = if c ∈ (asked kn l).take k then sS (FW kn l (l.getD c default).intent (l.getD c default).mask) (l.getD c default) else l.getD c default := by
  unfold partS
  rw [fold_at l _ _ (asked_nodup kn l) k hk c hc]
  split
  · rename_i hm
    rw [settle_asked 1 5 ((mem_asked h h6 c).1 (List.mem_of_mem_take hm)).2.2]
  · rfl
theorem wholeS_at {kn : List Bool} {l : List Rc} (h : kn.length = l.length) (h6 : l.length ≤ 6) (c : Nat) (hc : c < l.length) :
    (partS kn l (asked kn l).length).getD c default = if (kn.getD c false && (l.getD c default).op) = true then sS (FW kn l (l.getD c default).intent (l.getD c default).mask) (l.getD c default) else l.getD c default := by
  rw [partS_at h h6 _ (Nat.le_refl _) c hc, List.take_length]
  have := mem_asked h h6 c
  by_cases hm : c ∈ asked kn l
  · obtain ⟨_, h2, h3⟩ := this.1 hm
    rw [if_pos hm, if_pos (by rw [h2, h3]; rfl)]
  · rw [if_neg hm, if_neg (by
      intro hh
      rw [Bool.and_eq_true] at hh
      exact hm (this.2 ⟨hc, hh.1, hh.2⟩))]
end Go.Proofs.Ytaeeflfhjmjpjaa
