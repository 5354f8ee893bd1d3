/- NO WALK. UpdateEnds, UpdateCuts: the object and the columns' records, from round to round. -/
import Derived.Test.YtaeeflfhjmjpjaaUround
import Derived.Test.YtaeeflfhjmjpjaaUends
import Derived.Test.YtaeeflfhjmjpjaaUownP
import Derived.Test.YtaeeflfhjmjpjaaRows2
namespace Go.Proofs.Ytaeeflfhjmjpjaa
open Go.RowKit SlRd
set_option linter.unusedVariables false

theorem touch_rows {S : Nat → Prop} {W W' : World} {α : Type} {f : α → List Value} {size g : Nat} {l : List α} (ht : SlRd.Touch S W W') (h : RowsOf f size W g l) (hg : g < W.heap.size) (hn : ¬ S g) : RowsOf f size W' g l := fun k hk j hj => by
  have e := ht.block g hg hn
  obtain ⟨h1, h2⟩ := h k hk j hj
  unfold World.cell? at h1 ⊢
  unfold World.frozen? at h2 ⊢
  simp only [e] at h1 h2 ⊢
  exact ⟨h1, h2⟩
structure StE (w3 : World) (E Q m : Int) (B : Nat) (v : Value) (g : Nat) (u : Up) (R : List Rc) (W : World) : Prop where
  w : UW w3 W B v u
  e : EI E Q m u R
  r : RowsOf Rc.cs 10 W g R
  gs : g < W.heap.size
  gw : w3.heap.size ≤ g
  gB : ¬ US B v g
section
variable {w3 : World} {E Q m : Int} {B : Nat} {v : Value} {g : Nat} {u u' : Up} {R R' : List Rc} {W W' : World}
theorem StE.touch (h : StE w3 E Q m B v g u R W) (ht : SlRd.Touch (US B v) W W') (hu : UW w3 W' B v u') (he : EI E Q m u' R) : StE w3 E Q m B v g u' R W' :=
  ⟨hu, he, touch_rows ht h.r h.gs h.gB, Nat.lt_of_lt_of_le h.gs ht.size, h.gw, h.gB⟩
theorem StE.below (h : StE w3 E Q m B v g u R W) (hb : Below W.heap.size W W') : StE w3 E Q m B v g u R W' :=
  ⟨h.w.below hb, h.e, h.r.below hb h.gs, Nat.lt_of_lt_of_le h.gs hb.size, h.gw, h.gB⟩
theorem StE.store (h : StE w3 E Q m B v g u R W) {c : Nat} (hc : c < 6) (r' : Rc) (he : EI E Q m u (R.set c r')) : StE w3 E Q m B v g u (R.set c r') (W.setCells g (c * 10) r'.cs) := by
  have hB : B ≠ g := fun e => h.gB (.inl e.symm)
  have hv : ∀ q, v.ownBlock = some q → q ≠ g := fun q hq e => h.gB (.inr (by rw [hq, e]))
  exact ⟨h.w.cells_far hB hv h.gw _ _, he, h.r.set (fun _ => rfl) c (by rw [h.e.len]; exact hc) r', by rw [BRow.setCells_size]; exact h.gs, h.gw, h.gB⟩
theorem StE.there (h : StE w3 E Q m B v g u R W) {c : Nat} (hc : c < 6) : W.there g (c * 10) 10 := h.r.there (fun _ => rfl) c (by rw [h.e.len]; exact hc)
theorem StE.cells (h : StE w3 E Q m B v g u R W) {c : Nat} (hc : c < 6) {r : Rc} (hr : R[c]? = some r) : ∀ j, j < 10 → W.cell? ⟨g, c * 10 + j, none⟩ = r.cs[j]? := fun j hj => by
  have hl : c < R.length := by rw [h.e.len]; exact hc
  rw [List.getElem?_eq_getElem hl] at hr
  have := (h.r c hl j hj).1
  rw [Option.some.inj hr] at this
  exact this
theorem far_cell {W : World} {g b o j : Nat} {vs : List Value} (hn : b ≠ g) : (W.setCells g o vs).cell? ⟨b, j, none⟩ = W.cell? ⟨b, j, none⟩ := World.cell?_setCells_out _ _ _ _ _ (fun e _ => absurd e hn)
theorem Nw.set {W : World} {A i : Nat} {zs : List Value} (h : Nw W A zs) (hi : i < zs.length) (x : Value) : Nw (W.setCell ⟨A, i, none⟩ x) A (zs.set i x) :=
  ⟨cellsAt_set h.1 i hi x, fun j => by rw [World.frozen?_setCell]; exact h.2.1 j, by rw [BRow.size_setCell]; exact h.2.2⟩
/-- what is asked, of whom: the cells that a round reads, and what becomes of the records -/
theorem round_cells {S : Int} {C : List Int} {L : List ByteArray} {b1 b2 g1 g2 c1 c2 : Nat} (hF : Fits S E Q C L) (hi : Iv S E Q C L u) (hm : m = (maskOf C : Nat)) (hm1 : 1 ≤ m) (hm2 : m ≤ 63) (he : EI E Q m u R)
    (q1 : W.ownsRow b1 3 1 (.slice (some ⟨g1, 0, none⟩) (toAsk u).length c1) (toAsk u).length (colsOf (toAsk u)))
    (q2 : W.ownsRow b2 43 9 (.slice (some ⟨g2, 0, none⟩) (toAsk u).length c2) (toAsk u).length (((toAsk u).map fun p => askU u p (stU u)).flatMap Ak.cs)) (j : Nat) (hj : j < (toAsk u).length) :
    ∃ (ci : Nat) (q : Ak) (r r' : Rc), ci < 6 ∧ R[ci]? = some r ∧ W.cell? ⟨g1, j, none⟩ = some (.int .i64 ci) ∧ (∀ i, i < 9 → W.cell? ⟨g2, j * 9 + i, none⟩ = q.cs[i]?) ∧ (q.kind = 4 ∨ q.kind = 5) ∧
      (∀ W, Calls Try.prog 36 #[r.v, q.v] W fun e w' => e = .returned (.tuple #[r'.v, sayV 1 E nilRc]) ∧ Below W.heap.size W w') ∧
      EI E Q m (begun u) (R.set ci r') ∧ EI E Q m (saidU (begun u) (ci : Int) q.kind 1) (R.set ci r') ∧ Iv S E Q C L (saidU (begun u) (ci : Int) q.kind 1) ∧ mu (saidU (begun u) (ci : Int) q.kind 1) + 1 ≤ mu u ∧ (saidU (begun u) (ci : Int) q.kind 1).parts.length = u.parts.length := by
  have hp : (toAsk u)[j] ∈ toAsk u := List.getElem_mem hj
  have hpb := cols_bd hF hi (toAsk_in hp).1
  obtain ⟨z1, z2⟩ := asked_cells q1 q2 rfl j hj
  obtain ⟨r, r', h1, h2, h3, h4⟩ := round_law hF hi hm hm1 hm2 he hp
  obtain ⟨ci, hci⟩ : ∃ ci : Nat, (toAsk u)[j].col = (ci : Int) := ⟨(toAsk u)[j].col.toNat, by omega⟩
  have hk := ask_kind u (toAsk u)[j] (stU u)
  have hmu := mu_said hi hp
  have hiv := hi.begun.said (toAsk u)[j].col (askU u (toAsk u)[j] (stU u)).kind hk
  rw [hci] at z1 h1 h3 h4 hmu hiv
  rw [Int.toNat_natCast] at h1 h3 h4
  exact ⟨ci, _, r, r', by omega, h1, z1, z2, hk, h2, h3, h4, hiv, hmu, by rw [map_len, begun_parts]⟩
end
end Go.Proofs.Ytaeeflfhjmjpjaa
