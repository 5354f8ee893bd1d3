/- NO WALK. UpdateSteps: an answer said, and its flag. -/
import Derived.Test.YtaeeflfhjmjpjaaUstp
import Derived.Test.YtaeeflfhjmjpjaaUownP
namespace Go.Proofs.Ytaeeflfhjmjpjaa
open Go.RowKit SlRd
set_option linter.unusedVariables false

variable {w3 : World} {S E Q : Int} {C : List Int} {L : List ByteArray} {B : Nat} {v : Value} {O D : Nat} {u u' : Up} {ob db : List Bool} {W W' W0 : World}
theorem StR.blks (h : StR w3 S E Q C L B v O D u ob db W) (ht : SlRd.Touch (US B v) W W') : Blk W' O 60 (ob.map Value.bool).toArray ∧ Blk W' D 60 (db.map Value.bool).toArray :=
  ⟨ht.blk h.o (h.w.o.apart_blk h.o (by decide) (by decide)), ht.blk h.d (h.w.o.apart_blk h.d (by decide) (by decide))⟩
theorem UW.blk_touch {bs : List Bool} {O : Nat} (h : UW w3 W B v u) (hb : Blk W O 60 (bs.map Value.bool).toArray) (ht : SlRd.Touch (US B v) W W') : Blk W' O 60 (bs.map Value.bool).toArray :=
  ht.blk hb (h.o.apart_blk hb (by decide) (by decide))
theorem blk_flag {bs : List Bool} {O : Nat} (hb : Blk W O 60 (bs.map Value.bool).toArray) (ci : Nat) : Blk (W.setCell ⟨O, ci, none⟩ (.bool true)) O 60 ((bs.set ci true).map Value.bool).toArray := by
  have h := hb.set_ ci (.bool true)
  rw [List.map_set]
  rw [List.setIfInBounds_toArray] at h
  exact h
theorem UW.flag {O : Nat} {cs : Array Value} (h : UW w3 W B v u) (hb : Blk W O 60 cs) (hO : w3.heap.size ≤ O) (ci : Nat) : UW w3 (W.setCell ⟨O, ci, none⟩ (.bool true)) B v u := by
  have hn := h.o.apart_blk hb (by decide) (by decide)
  exact h.cells_far (fun e => hn (.inl e.symm)) (fun q hq e => hn (.inr (by rw [hq, e]))) hO [.bool true] ci
theorem StR.tell4 (hF : Fits S E Q C L) (h : StR w3 S E Q C L B v O D (begun u) ob db W0) (hO : w3.heap.size ≤ O) (hOD : O ≠ D) {p : Pt} (hp : p ∈ toAsk u) (h0 : stU u = 0) {ci : Nat} (hci : p.col = (ci : Int))
    (hw : UW w3 W B v (saidU (begun u) (ci : Int) 4 1)) (bo : Blk W O 60 (ob.map Value.bool).toArray) (bd : Blk W D 60 (db.map Value.bool).toArray) :
    StR w3 S E Q C L B v O D (saidU (begun u) (ci : Int) 4 1) (ob.set ci true) db (W.setCell ⟨O, ci, none⟩ (.bool true)) := by
  have hs := Fl.said hF h.i h.m h.f (p := p) hp
  have hk : (askU (begun u) p (stU (begun u))).kind = 4 := by
    rw [begun_st, h0, askU_0 h.i]
  rw [hk, hci] at hs
  have hi := h.i.said (ci : Int) 4 (.inl rfl)
  obtain ⟨hs1, hs2⟩ := hs
  have hfl : Fl (saidU (begun u) (ci : Int) 4 1) (ob.set ci true) db := by
    rcases hs1 with ⟨_, h1⟩ | ⟨h1, _⟩
    · exact h1
    · cases h1
  exact ⟨hw.flag bo hO ci, hi, hs2, hfl, blk_flag bo ci, bd.far hOD.symm _⟩
theorem StR.tell5 (hF : Fits S E Q C L) (h : StR w3 S E Q C L B v O D (begun u) ob db W0) (hD : w3.heap.size ≤ D) (hOD : O ≠ D) {p : Pt} (hp : p ∈ toAsk u) (h0 : stU u = 1) {ci : Nat} (hci : p.col = (ci : Int))
    (hw : UW w3 W B v (saidU (begun u) (ci : Int) 5 1)) (bo : Blk W O 60 (ob.map Value.bool).toArray) (bd : Blk W D 60 (db.map Value.bool).toArray) :
    StR w3 S E Q C L B v O D (saidU (begun u) (ci : Int) 5 1) ob (db.set ci true) (W.setCell ⟨D, ci, none⟩ (.bool true)) := by
  have hs := Fl.said hF h.i h.m h.f (p := p) hp
  have hk : (askU (begun u) p (stU (begun u))).kind = 5 := by
    rw [begun_st, h0, askU_1 h.i]
  rw [hk, hci] at hs
  have hi := h.i.said (ci : Int) 5 (.inr rfl)
  obtain ⟨hs1, hs2⟩ := hs
  have hfl : Fl (saidU (begun u) (ci : Int) 5 1) ob (db.set ci true) := by
    rcases hs1 with ⟨h1, _⟩ | ⟨_, h1⟩
    · cases h1
    · exact h1
  exact ⟨hw.flag bd hD ci, hi, hs2, hfl, bo.far hOD _, blk_flag bd ci⟩
/-- said once more, it is the same -/
theorem again_of (hi : Iv S E Q C L u) {p : Pt} (hp : p ∈ toAsk u) {ci : Nat} (hci : p.col = (ci : Int)) (K : Int) (hK : (askU u p (stU u)).kind = K) (s : Int) : saidU (saidU (begun u) (ci : Int) K 1) (ci : Int) K s = saidU (begun u) (ci : Int) K 1 := by
  have h := said_again (u := begun u) hi.begun (p := p) hp s
  rw [show (askU (begun u) p (stU (begun u))).kind = K from hK, hci] at h
  exact h
/-- behind the third loop: the object, the flags, the columns asked and the asks -/
structure StT (w3 : World) (B : Nat) (v : Value) (O D : Nat) (ob db : List Bool) (b1 b2 g1 g2 c1 c2 n : Nat) (T : List Pt) (f : Pt → Ak) (u : Up) (W : World) : Prop where
  w : UW w3 W B v u
  o : Blk W O 60 (ob.map Value.bool).toArray
  d : Blk W D 60 (db.map Value.bool).toArray
  q1 : W.ownsRow b1 3 1 (.slice (some ⟨g1, 0, none⟩) n c1) n (colsOf T)
  q2 : W.ownsRow b2 43 9 (.slice (some ⟨g2, 0, none⟩) n c2) n ((T.map f).flatMap Ak.cs)
section
variable {b1 b2 g1 g2 c1 c2 n : Nat} {T : List Pt} {f : Pt → Ak}
theorem StT.touch (h : StT w3 B v O D ob db b1 b2 g1 g2 c1 c2 n T f u W) (ht : SlRd.Touch (US B v) W W') (hw : UW w3 W' B v u') : StT w3 B v O D ob db b1 b2 g1 g2 c1 c2 n T f u' W' :=
  ⟨hw, h.w.blk_touch h.o ht, h.w.blk_touch h.d ht, h.w.keep ht h.q1 (by decide) (by decide), h.w.keep ht h.q2 (by decide) (by decide)⟩
theorem StT.below (h : StT w3 B v O D ob db b1 b2 g1 g2 c1 c2 n T f u W) (hb : Below W.heap.size W W') : StT w3 B v O D ob db b1 b2 g1 g2 c1 c2 n T f u W' :=
  ⟨h.w.below hb, (hb.block O h.o.lt).trans h.o, (hb.block D h.d.lt).trans h.d, owns_below h.q1 hb, owns_below h.q2 hb⟩
theorem StT.drew (h : StT w3 B v O D ob db b1 b2 g1 g2 c1 c2 n T f u W) : StT w3 B v O D ob db b1 b2 g1 g2 c1 c2 n T f u W.drew := h.below (Below.refl _ _).drew
theorem StT.cells (h : StT w3 B v O D ob db b1 b2 g1 g2 c1 c2 n T f u W) (hn : n = T.length) (j : Nat) (hj : j < T.length) :
    W.cell? ⟨g1, j, none⟩ = some (.int .i64 T[j].col) ∧ ∀ i, i < 9 → W.cell? ⟨g2, j * 9 + i, none⟩ = (f T[j]).cs[i]? := asked_cells h.q1 h.q2 hn j hj
/-- all that the walk behind loop 3 asks: two classes of worlds (before and behind the first Said) -/
theorem tail_law (hF : Fits S E Q C L) (h : StR w3 S E Q C L B v O D (begun u) ob db W0) (hI : Iv S E Q C L u) (hlen : u.parts.length ≤ 1000)
    (q1 : W0.ownsRow b1 3 1 (.slice (some ⟨g1, 0, none⟩) (toAsk u).length c1) (toAsk u).length (colsOf (toAsk u)))
    (q2 : W0.ownsRow b2 43 9 (.slice (some ⟨g2, 0, none⟩) (toAsk u).length c2) (toAsk u).length (((toAsk u).map fun p => askU u p (stU u)).flatMap Ak.cs))
    (hO : w3.heap.size ≤ O) (hD : w3.heap.size ≤ D) (hOD : O ≠ D) (K : Int) (G : Nat) (hKG : (K = 4 ∧ stU u = 0 ∧ G = O) ∨ (K = 5 ∧ stU u = 1 ∧ G = D)) (j : Nat) (hj : j < (toAsk u).length) (hb : Below W0.heap.size W0 W) :
    ∃ (ci : Nat) (I0 I1 : World → Prop), ci < 6 ∧ I0 W ∧ (∀ w, I0 w → I0 w.drew) ∧ (∀ w, I1 w → I1 w.drew) ∧
      (∀ w, I0 w → w.cell? ⟨g1, j, none⟩ = some (.int .i64 ci) ∧ w.cell? ⟨g2, j * 9, none⟩ = some (.int .i64 K)) ∧
      (∀ w, I1 w → w.cell? ⟨g1, j, none⟩ = some (.int .i64 ci) ∧ w.cell? ⟨g2, j * 9, none⟩ = some (.int .i64 K) ∧ (∃ x, w.cell? ⟨G, ci, none⟩ = some (.bool x)) ∧ w.frozen? ⟨G, ci, none⟩ = false) ∧
      (∀ w, I0 w → Calls Try.prog 34 #[.pointer (some ⟨B, 0, none⟩), .int .i64 ci, .int .i64 K, .int .i64 1] w fun e w' => e = .returned (.tuple #[]) ∧ I1 w') ∧
      (∀ s w, I1 w → Calls Try.prog 34 #[.pointer (some ⟨B, 0, none⟩), .int .i64 ci, .int .i64 K, .int .i64 s] w fun e w' => e = .returned (.tuple #[]) ∧ I1 w') ∧
      (∀ w, I1 w → Below w3.heap.size w3 w) ∧
      (∀ w, I1 w → ∃ u' ob' db', StR w3 S E Q C L B v O D u' ob' db' (w.setCell ⟨G, ci, none⟩ (.bool true))) := by
  have hpin : (toAsk u)[j] ∈ toAsk u := List.getElem_mem hj
  have hpm := (toAsk_in hpin).1
  obtain ⟨ci, hci, hpc, _, y1, y2⟩ := h.flagp hF (p := (toAsk u)[j]) hpm
  have hK : (askU u (toAsk u)[j] (stU u)).kind = K := by
    rcases hKG with ⟨rfl, h0, _⟩ | ⟨rfl, h0, _⟩
    · rw [h0, askU_0 hI]
    · rw [h0, askU_1 hI]
  have hK2 : K = 4 ∨ K = 5 := by
    rcases hKG with ⟨rfl, _⟩ | ⟨rfl, _⟩
    · exact .inl rfl
    · exact .inr rfl
  have hi1 := h.i.said (ci : Int) K hK2
  have hl0 : (begun u).parts.length ≤ 1000 := hlen
  have hl1 : (saidU (begun u) (ci : Int) K 1).parts.length ≤ 1000 := by
    rw [hi1.len, ← h.i.len]
    exact hl0
  have hcl : ∀ u' w, StT w3 B v O D ob db b1 b2 g1 g2 c1 c2 (toAsk u).length (toAsk u) (fun p => askU u p (stU u)) u' w → w.cell? ⟨g1, j, none⟩ = some (.int .i64 ci) ∧ w.cell? ⟨g2, j * 9, none⟩ = some (.int .i64 K) := by
    intro u' w hw
    obtain ⟨z1, z2⟩ := hw.cells rfl j hj
    have z0 := z2 0 (by omega)
    rw [hpc] at z1
    refine ⟨z1, ?_⟩
    rw [← hK]
    exact z0
  refine ⟨ci, StT w3 B v O D ob db b1 b2 g1 g2 c1 c2 (toAsk u).length (toAsk u) (fun p => askU u p (stU u)) (begun u), StT w3 B v O D ob db b1 b2 g1 g2 c1 c2 (toAsk u).length (toAsk u) (fun p => askU u p (stU u)) (saidU (begun u) (ci : Int) K 1), hci, ?_, fun w hw => hw.drew, fun w hw => hw.drew, fun w hw => hcl _ w hw, ?_, ?_, ?_, fun w hw => hw.w.w, ?_⟩
  · have h' := h.below hb
    exact ⟨h'.w, h'.o, h'.d, owns_below q1 hb, owns_below q2 hb⟩
  · intro w hw
    obtain ⟨z1, z2⟩ := hcl _ w hw
    refine ⟨z1, z2, ?_⟩
    have hn1 := h.f.n1
    have hn2 := h.f.n2
    rcases hKG with ⟨_, _, rfl⟩ | ⟨_, _, rfl⟩
    · refine ⟨⟨ob[ci]'(by omega), ?_⟩, hw.o.frozen ci⟩
      rw [hw.o.cell, List.getElem?_toArray, List.getElem?_map, List.getElem?_eq_getElem (by omega)]
      rfl
    · refine ⟨⟨db[ci]'(by omega), ?_⟩, hw.d.frozen ci⟩
      rw [hw.d.cell, List.getElem?_toArray, List.getElem?_map, List.getElem?_eq_getElem (by omega)]
      rfl
  · intro w hw
    refine (saidW hw.w hl0 ci K 1).mono ?_
    rintro e w' ⟨rfl, h1, h2⟩
    exact ⟨rfl, hw.touch h2 h1⟩
  · intro s w hw
    refine (saidW hw.w hl1 ci K s).mono ?_
    rintro e w' ⟨rfl, h1, h2⟩
    rw [again_of hI hpin hpc K hK s] at h1
    exact ⟨rfl, hw.touch h2 h1⟩
  · intro w hw
    rcases hKG with ⟨rfl, h0, rfl⟩ | ⟨rfl, h0, rfl⟩
    · exact ⟨_, _, _, h.tell4 hF hO hOD hpin h0 hpc hw.w hw.o hw.d⟩
    · exact ⟨_, _, _, h.tell5 hF hD hOD hpin h0 hpc hw.w hw.o hw.d⟩
end
end Go.Proofs.Ytaeeflfhjmjpjaa
