/- Plain facts: which columns are asked, counted from below; what columns' records are bounded by. -/
import Derived.Test.YtaeeflfhjmjpjaaColumns
namespace Go.Proofs.Ytaeeflfhjmjpjaa
open Go.RowKit SlRd
set_option linter.unusedVariables false

def askP (kn : List Bool) (l : List Rc) (i : Nat) : Bool := kn.getD i false && (l.getD i default).op
def ASK (kn : List Bool) (l : List Rc) (c : Nat) : List Nat := (List.range c).filter (askP kn l)
theorem bit63 (i : Nat) (h : i < 6) : bitAt 63 i = true := by
  rcases (show i = 0 ∨ i = 1 ∨ i = 2 ∨ i = 3 ∨ i = 4 ∨ i = 5 from by omega) with rfl | rfl | rfl | rfl | rfl | rfl <;> decide
theorem asked_eq {kn : List Bool} {l : List Rc} (h : kn.length = l.length) (h6 : l.length ≤ 6) : asked kn l = ASK kn l l.length := by
  unfold asked yes cols TK ASK
  rw [List.filter_filter, show many kn l = l.length from by unfold many; omega]
  refine List.filter_congr fun i hi => ?_
  rw [List.mem_range] at hi
  unfold askP
  rw [bit63 i (by omega), Bool.and_true, Bool.and_comm]
theorem filt_get (P : Nat → Bool) : ∀ (n c : Nat) (h : c < n) (hp : P c = true), ((List.range n).filter P)[((List.range c).filter P).length]? = some c
  | 0, c, h, _ => absurd h (by omega)
  | n + 1, c, h, hp => by
    rw [List.range_succ, List.filter_append]
    by_cases e : c = n
    · subst e
      rw [List.getElem?_append_right (Nat.le_refl _), Nat.sub_self, List.filter_cons, if_pos hp]
      rfl
    · have := filt_get P n c (by omega) hp
      rw [List.getElem?_append_left]
      · exact this
      · exact (List.getElem?_eq_some_iff.1 this).1
theorem ASK_succ (kn : List Bool) (l : List Rc) (c : Nat) : ASK kn l (c + 1) = if askP kn l c then ASK kn l c ++ [c] else ASK kn l c := by
  unfold ASK
  rw [List.range_succ, List.filter_append, List.filter_cons]
  cases askP kn l c <;> simp
theorem ASK_lt (kn : List Bool) (l : List Rc) {n c : Nat} (h : c < n) (hp : askP kn l c = true) : (ASK kn l c).length < (ASK kn l n).length ∧ (ASK kn l n)[(ASK kn l c).length]? = some c := by
  have := filt_get (askP kn l) n c h hp
  exact ⟨(List.getElem?_eq_some_iff.1 this).1, this⟩

theorem ASK_le (kn : List Bool) (l : List Rc) (c : Nat) : (ASK kn l c).length ≤ c := by
  unfold ASK
  exact Nat.le_trans (List.length_filter_le _ _) (by simp)
theorem cMask_bd (masks : List Int) (n : Int) : 1 ≤ cMask masks n ∧ cMask masks n ≤ 63 := by
  unfold cMask
  split
  · have := pk_bd (masks.getD (n - 1).toNat 0) 63 (by omega)
    omega
  · omega
theorem cRec_mask (masks : List Int) (x : Cl) : 0 ≤ (cRec masks x).mask ∧ (cRec masks x).mask ≤ 63 := by
  have h := cMask_bd masks (cNum x)
  unfold cRec
  split
  · exact ⟨by show 0 ≤ cMask _ _; omega, h.2⟩
  · split
    · exact ⟨by show (0 : Int) ≤ 0; omega, by show (0 : Int) ≤ 63; omega⟩
    · exact ⟨by show (0 : Int) ≤ 0; omega, by show (0 : Int) ≤ 63; omega⟩
theorem six_len (raw : List Cl) : (six raw).length ≤ 6 := by unfold six; rw [List.length_take]; omega
/-- what the columns hold, as the settle functions read it -/
theorem given_cols {w : World} {raw : List Cl} {masks : List Int} {v1 v2 : Value} (h1 : Rd w 1 v1 (six raw).length (((six raw).map cKnown).map Value.bool)) (h2 : Rd w 10 v2 (six raw).length (((six raw).map (cRec masks)).flatMap Rc.cs)) :
    Given w ((six raw).map cKnown) ((six raw).map (cRec masks)) v1 v2 := by
  have h6 := six_len raw
  refine ⟨by rw [List.length_map]; exact h1, by rw [List.length_map]; exact h2, by rw [List.length_map]; omega, by rw [List.length_map]; omega, ?_⟩
  intro r hr
  obtain ⟨x, _, rfl⟩ := List.mem_map.1 hr
  have := cRec_mask masks x
  omega

theorem cols_given (raw : List Cl) (masks : List Int) (vr vm : Value) (w : World) (hr : Rd w 4 vr raw.length (raw.flatMap Cl.cs)) (hm : Rd w 1 vm masks.length (IV masks)) (hrl : raw.length ≤ 140737488351232) (hml : masks.length ≤ 140737488351232)
    (hok : Hid (∀ x ∈ raw, x.ok)) (hmk : Hid (∀ x ∈ masks, -9223372036854775808 ≤ x ∧ x ≤ 9223372036854775807)) :
    Calls Try.prog 16 #[vr, vm] w fun e w' => ∃ v1 v2, e = .returned (.tuple #[v1, v2]) ∧ Given w' ((six raw).map cKnown) ((six raw).map (cRec masks)) v1 v2 ∧ Below w.heap.size w w' :=
  (columns_any raw masks vr vm w hr hm hrl hml hok hmk).mono fun _ _ ⟨v1, v2, he, h1, h2, hb⟩ => ⟨v1, v2, he, given_cols (Rd.of_owns h1) (Rd.of_owns h2), hb⟩

/-- what a new block is good for -/
structure New (W : World) (cs : List Value) (W' : World) : Prop where
  cells : ∀ j, W'.cell? ⟨W.heap.size, j, none⟩ = cs[j]?
  free : ∀ j, W'.frozen? ⟨W.heap.size, j, none⟩ = false
  below : Below W.heap.size W W'
  lt : W.heap.size < W'.heap.size
theorem New.of (W : World) (cs : List Value) (e : TypeId) : New W cs (W.alloc (.cells cs.toArray e)) :=
  ⟨fun j => by rw [World.cell?_alloc_at _ _ _ _ rfl]; simp, fun j => by simp, (Below.refl _ _).alloc (Nat.le_refl _) _, by simp⟩
end Go.Proofs.Ytaeeflfhjmjpjaa
