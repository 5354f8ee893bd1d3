/- Plain facts: the six columns of SettleFew. -/
import Derived.Test.YtaeeflfhjmjpjaaDoneP
namespace Go.Proofs.Ytaeeflfhjmjpjaa
open Go.RowKit SlRd
set_option linter.unusedVariables false

@[reducible] def txt0 : ByteArray := ⟨#[48, 49, 50, 51, 52, 53, 54, 55, 56, 57, 97, 98, 99, 100, 101, 102]⟩
@[reducible] def txt1 : ByteArray := ⟨#[102, 101, 100, 99, 98, 97, 57, 56, 55, 54, 53, 52, 51, 50, 49, 48]⟩
@[reducible] def fShut : Rc := ⟨true, 5, ⟨0, 0⟩, txt0, false, ⟨0, 0⟩, 0, ⟨#[]⟩⟩
@[reducible] def fOpen (m : Int) : Rc := ⟨true, 5, ⟨0, 0⟩, txt0, true, ⟨3, 1⟩, m, txt1⟩
def fR (m : Int) (c : Nat) : Rc := if bitAt m c then fOpen m else fShut
def fL (m : Int) (j : Nat) : List Rc := (List.range j).map (fR m)
def fK (q : Int) (j : Nat) : List Bool := (List.range j).map fun (i : Nat) => (i : Int) != q
def fMany (m q : Int) (j : Nat) : Nat := ((List.range j).filter fun (i : Nat) => ((i : Int) != q) && bitAt m i).length
theorem fL_len (m : Int) (j : Nat) : (fL m j).length = j := by unfold fL; simp
theorem fK_len (q : Int) (j : Nat) : (fK q j).length = j := by unfold fK; simp
theorem fL_succ (m : Int) (j : Nat) : fL m (j + 1) = fL m j ++ [fR m j] := by unfold fL; rw [List.range_succ, List.map_append]; rfl
theorem fK_succ (q : Int) (j : Nat) : fK q (j + 1) = fK q j ++ [(j : Int) != q] := by unfold fK; rw [List.range_succ, List.map_append]; rfl
theorem fMany_succ (m q : Int) (j : Nat) : fMany m q (j + 1) = fMany m q j + if (((j : Int) != q) && bitAt m j) = true then 1 else 0 := by
  unfold fMany
  rw [List.range_succ, List.filter_append, List.length_append, List.filter_cons]
  cases ((j : Int) != q) && bitAt m j <;> rfl
theorem fMany_le (m q : Int) (j : Nat) : fMany m q j ≤ j := by
  unfold fMany
  exact Nat.le_trans (List.length_filter_le _ _) (by simp)
theorem fL_at (m : Int) (i : Nat) (h : i < 6) : (fL m 6).getD i default = fR m i := by
  unfold fL
  rw [List.getD_eq_getElem?_getD, List.getElem?_map, List.getElem?_range h]
  rfl
theorem fK_at (q : Int) (i : Nat) (h : i < 6) : (fK q 6).getD i false = ((i : Int) != q) := by
  unfold fK
  rw [List.getD_eq_getElem?_getD, List.getElem?_map, List.getElem?_range h]
  rfl
theorem fR_op (m : Int) (i : Nat) : (fR m i).op = bitAt m i := by unfold fR; cases bitAt m i <;> rfl
theorem fASK (m q : Int) : asked (fK q 6) (fL m 6) = (List.range 6).filter fun (i : Nat) => ((i : Int) != q) && bitAt m i := by
  rw [asked_eq (by rw [fK_len, fL_len]) (by rw [fL_len]; omega), fL_len]
  unfold ASK askP
  refine List.filter_congr fun i hi => ?_
  rw [List.mem_range] at hi
  rw [fK_at q i hi, fL_at m i hi, fR_op]
theorem fTK (m q : Int) : TK (fK q 6) m 6 = (List.range 6).filter fun (i : Nat) => ((i : Int) != q) && bitAt m i := by
  unfold TK
  refine List.filter_congr fun i hi => ?_
  rw [List.mem_range] at hi
  rw [fK_at q i hi]
theorem fMany_asked (m q : Int) : (asked (fK q 6) (fL m 6)).length = fMany m q 6 := by rw [fASK]; rfl
theorem fAsked_in (m q : Int) {i : Nat} (h : i ∈ asked (fK q 6) (fL m 6)) : i < 6 ∧ (i : Int) ≠ q ∧ bitAt m i = true := by
  rw [fASK] at h
  obtain ⟨h1, h2⟩ := List.mem_filter.1 h
  rw [Bool.and_eq_true] at h2
  exact ⟨List.mem_range.1 h1, by simpa using h2.1, h2.2⟩
theorem fTK_in (m q : Int) {i : Nat} (h : i ∈ TK (fK q 6) m 6) : i < 6 ∧ (i : Int) ≠ q ∧ bitAt m i = true := by
  rw [fTK, ← fASK] at h
  exact fAsked_in m q h
theorem any_false {p : Nat → Bool} {l : List Nat} (h : ∀ i ∈ l, p i = false) : l.any p = false := by
  rw [Bool.eq_false_iff]
  intro hh
  obtain ⟨i, hi, hp⟩ := List.any_eq_true.1 hh
  rw [h i hi] at hp
  cases hp
theorem fFW (m q : Int) : FW (fK q 6) (fL m 6) ⟨3, 1⟩ m = decide (0 < fMany m q 6) := by
  rw [FW_is (by rw [fK_len, fL_len]) (by rw [fL_len]; omega), fL_len]
  have h1 : dD (fK q 6) (fL m 6) ⟨3, 1⟩ m 6 = false := any_false fun i hi => by
    obtain ⟨h6, _, hb⟩ := fTK_in m q hi
    rw [fL_at m i h6]
    unfold fR
    rw [hb]
    rfl
  have h2 : dL (fK q 6) (fL m 6) ⟨3, 1⟩ m 6 = false := any_false fun i hi => by
    obtain ⟨h6, _, hb⟩ := fTK_in m q hi
    rw [fL_at m i h6]
    unfold fR
    rw [hb]
    rfl
  have h3 : dS (fK q 6) m 6 = decide (0 < fMany m q 6) := by
    unfold dS fMany
    rw [fTK, any_true]
  rw [h1, h2, h3]
  simp
theorem fDN (m q : Int) : DN (fK q 6) (fL m 6) ⟨3, 1⟩ = false := by
  unfold DN yes
  rw [any_filter]
  refine any_false fun i hi => ?_
  have h6 : i < 6 := by
    have := cols_in _ _ _ i hi
    rw [fL_len] at this
    exact this
  rw [fL_at m i h6]
  unfold fR
  cases bitAt m i <;> rfl
theorem fMask (m q : Int) {i : Nat} (h : i ∈ asked (fK q 6) (fL m 6)) : askOf (fK q 6) (fL m 6) 1 5 i = ⟨6, 1, 5, 0, 1, 0, ⟨3, 1⟩, ⟨#[]⟩⟩ := by
  obtain ⟨h6, _, hb⟩ := fAsked_in m q h
  have hr : (fL m 6).getD i default = fOpen m := by rw [fL_at m i h6]; unfold fR; rw [hb]; rfl
  unfold askOf
  rw [hr]
  show Ak.mk 6 1 5 0 (if FW (fK q 6) (fL m 6) ⟨3, 1⟩ m = true then 1 else 0) 0 ⟨3, 1⟩ ⟨#[]⟩ = _
  rw [fFW, decide_eq_true (by rw [← fMany_asked]; exact List.length_pos_of_mem h)]
  rfl
theorem fR_mask (m : Int) (h : 0 ≤ m ∧ m ≤ 64) (c : Nat) : 0 ≤ (fR m c).mask ∧ (fR m c).mask ≤ 64 := by
  unfold fR
  cases bitAt m c
  · exact ⟨by show (0 : Int) ≤ 0; omega, by show (0 : Int) ≤ 64; omega⟩
  · exact h
theorem fGiven {w : World} {m q : Int} (hm : 0 ≤ m ∧ m ≤ 64) {v1 v2 : Value} (h1 : Rd w 1 v1 6 ((fK q 6).map Value.bool)) (h2 : Rd w 10 v2 6 ((fL m 6).flatMap Rc.cs)) : Given w (fK q 6) (fL m 6) v1 v2 := by
  refine ⟨by rw [fK_len]; exact h1, by rw [fL_len]; exact h2, by rw [fK_len]; omega, by rw [fL_len]; omega, ?_⟩
  intro r hr
  obtain ⟨x, _, rfl⟩ := List.mem_map.1 hr
  have := fR_mask m hm x
  omega
end Go.Proofs.Ytaeeflfhjmjpjaa
