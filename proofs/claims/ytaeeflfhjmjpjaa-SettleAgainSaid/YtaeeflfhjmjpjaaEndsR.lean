/- Plain facts: what SettleEnds counts. -/
import Derived.Test.YtaeeflfhjmjpjaaEndsQ
namespace Go.Proofs.Ytaeeflfhjmjpjaa
open Go.RowKit SlRd
set_option linter.unusedVariables false

def mnyP (kn : List Bool) (l : List Rc) (t : Tg) (c : Nat) : Bool := kn.getD c false && openP t (l.getD c default)
def mny (kn : List Bool) (l : List Rc) (t : Tg) (j : Nat) : Nat := ((List.range j).filter (mnyP kn l t)).length
theorem mny_succ (kn : List Bool) (l : List Rc) (t : Tg) (j : Nat) : mny kn l t (j + 1) = mny kn l t j + if mnyP kn l t j then 1 else 0 := by
  unfold mny
  rw [List.range_succ, List.filter_append, List.length_append, List.filter_cons]
  cases mnyP kn l t j <;> rfl
theorem mny_le (kn : List Bool) (l : List Rc) (t : Tg) (j : Nat) : mny kn l t j ≤ j := by
  unfold mny
  exact Nat.le_trans (List.length_filter_le _ _) (by simp)
theorem was_forward {kn : List Bool} {l : List Rc} (h : kn.length = l.length) (h6 : l.length ≤ 6) (t : Tg) (M : Int) (hw : dD kn l t M l.length = true) : FW kn l t M = true := by
  rw [FW_is h h6, hw]; rfl
/-- what becomes of a column that is known -/
theorem now_at {kn : List Bool} {l : List Rc} {masks : List Int} (h : EOk kn l masks) (c : Nat) (hc : c < l.length) (hk : kn.getD c false = true) :
    (partS kn l (asked kn l).length).getD c default = if (l.getD c default).op then sS (FW kn l (l.getD c default).intent (l.getD c default).mask) (l.getD c default) else l.getD c default := by
  rw [wholeS_at h.len h.six c hc, hk, Bool.true_and]
theorem open_tag3 {kn : List Bool} {l : List Rc} {masks : List Int} (h : EOk kn l masks) (s : Int) (c : Nat) (hc : c < l.length) (ho : openP ⟨3, s⟩ (l.getD c default) = true) :
    (l.getD c default).done = ⟨2, 9⟩ ∧ FW kn l (l.getD c default).intent (l.getD c default).mask = FW kn l ⟨3, s⟩ (cMask masks s) ∧ (l.getD c default).intent = ⟨3, s⟩ := by
  unfold openP at ho
  rw [Bool.and_eq_true, Bool.and_eq_true] at ho
  obtain ⟨h1, h2, h3⟩ := ho
  obtain ⟨d, n, n1, n2, hi, hm⟩ := h.opn _ (getD_mem hc) h1
  have e : n = s := by rw [hi] at h3; simpa using h3
  subst e
  exact ⟨d, by rw [hi, hm], hi⟩
end Go.Proofs.Ytaeeflfhjmjpjaa
