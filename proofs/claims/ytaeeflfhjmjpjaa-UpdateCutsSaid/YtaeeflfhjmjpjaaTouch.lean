/- What a call turns: blocks of its own objects, and new ones. No program in sight. -/
import Derived.Test.YtaeeflfhjmjpjaaSlRd
import Derived.Below
import Derived.Deep.Draws
import Derived.Laws.Rows
set_option linter.unusedVariables false
namespace SlRd
open Go Go.RowKit

/-- block g is just the cells cs of element type t, none frozen -/
def Blk (w : World) (g : Nat) (t : TypeId) (cs : Array Value) : Prop := w.heap[g]? = some (.cells cs t (0, 0))
section
variable {w w' : World} {g : Nat} {t : TypeId} {cs : Array Value}
theorem Blk.lt (h : Blk w g t cs) : g < w.heap.size := by
  rcases Nat.lt_or_ge g w.heap.size with hlt | hge
  · exact hlt
  · unfold Blk at h; rw [Array.getElem?_eq_none hge] at h; cases h
theorem Blk.cell (h : Blk w g t cs) (i : Nat) : w.cell? ⟨g, i, none⟩ = cs[i]? := cell_of_row w g i cs t (0, 0) h
theorem Blk.frozen (h : Blk w g t cs) (i : Nat) : w.frozen? ⟨g, i, none⟩ = false := by
  unfold Blk at h
  simp [World.frozen?, h]
theorem Blk.new (w : World) (t : TypeId) (cs : Array Value) : Blk (w.alloc (.cells cs t)) w.heap.size t cs := heap_alloc_new w _
theorem Blk.set_ (h : Blk w g t cs) (i : Nat) (u : Value) : Blk (w.setCell ⟨g, i, none⟩ u) g t (cs.setIfInBounds i u) := by
  unfold Blk at h ⊢
  simp [World.setCell, Array.getElem?_modify, h]
theorem Blk.far (h : Blk w g t cs) {p : Addr} (hp : g ≠ p.block) (u : Value) : Blk (w.setCell p u) g t cs := (Below.heap_setCell w p u g hp).trans h
theorem Blk.ne_ {g' : Nat} {t' : TypeId} {cs' : Array Value} (h : Blk w g t cs) (h' : Blk w g' t' cs') (hne : t ≠ t') : g ≠ g' := by
  rintro rfl
  unfold Blk at h h'
  rw [h] at h'
  injection h' with h'
  injection h' with _ ht
  exact hne ht
theorem own_blk_ne {base : Nat} {e : TypeId} {size n : Nat} {v : Value} {xs : List Value} (h : w.ownsRow base e size v n xs) (hg : Blk w g t cs) (hne : e ≠ t) : v.ownBlock ≠ some g := by
  rcases h.2 with ⟨rfl, _⟩ | ⟨g', cap, cur, rfl, _, hh, _⟩
  · simp [Value.ownBlock]
  · intro he
    have : g' = g := by simpa [Value.ownBlock] using he
    subst this
    exact Blk.ne_ (t := e) hh hg hne rfl
end

/-- only blocks of S, and new ones, have turned -/
structure Touch (S : Nat → Prop) (W W' : World) : Prop where
  os : W'.os = W.os
  tape : W'.tape = W.tape
  output : W'.output = W.output
  size : W.heap.size ≤ W'.heap.size
  block : ∀ i, i < W.heap.size → ¬ S i → W'.heap[i]? = W.heap[i]?
section
variable {S : Nat → Prop} {W W' W'' : World}
theorem Touch.refl (S : Nat → Prop) (W : World) : Touch S W W := ⟨rfl, rfl, rfl, Nat.le_refl _, fun _ _ _ => rfl⟩
theorem Touch.trans (h : Touch S W W') (h' : Touch S W' W'') : Touch S W W'' := ⟨h'.os.trans h.os, h'.tape.trans h.tape, h'.output.trans h.output, Nat.le_trans h.size h'.size, fun i hi hs => (h'.block i (Nat.lt_of_lt_of_le hi h.size) hs).trans (h.block i hi hs)⟩
theorem Touch.mono {S' : Nat → Prop} (h : Touch S W W') (hs : ∀ i, i < W.heap.size → S i → S' i) : Touch S' W W' := ⟨h.os, h.tape, h.output, h.size, fun i hi hn => h.block i hi fun hh => hn (hs i hi hh)⟩
theorem Touch.then_ {S' : Nat → Prop} (h : Touch S W W') (h' : Touch S' W' W'') (hs : ∀ i, i < W.heap.size → S' i → S i) : Touch S W W'' :=
  ⟨h'.os.trans h.os, h'.tape.trans h.tape, h'.output.trans h.output, Nat.le_trans h.size h'.size, fun i hi hn => (h'.block i (Nat.lt_of_lt_of_le hi h.size) fun hh => hn (hs i hi hh)).trans (h.block i hi hn)⟩
theorem Touch.of_below (hb : Below W.heap.size W W') : Touch S W W' := ⟨hb.os, hb.tape, hb.output, hb.size, fun i hi _ => hb.block i hi⟩
theorem Touch.of_grown {v : Value} (hg : W.grownBy W' v.ownBlock) (hs : ∀ i, v.ownBlock = some i → S i) : Touch S W W' := ⟨hg.os, hg.tape, hg.output, hg.size, fun i hi hn => hg.block i hi fun hh => hn (hs i hh.symm)⟩
theorem Touch.setCell (p : Addr) (u : Value) (hs : S p.block) : Touch S W (W.setCell p u) := ⟨rfl, rfl, rfl, by simp [World.setCell], fun i _ hn => Below.heap_setCell W p u i fun hh => hn (by rw [hh]; exact hs)⟩
theorem Touch.below {B : Nat} {A : World} (h : Touch S W W') (hb : Below B A W) (hs : ∀ i, S i → B ≤ i) (hB : B ≤ A.heap.size) : Below B A W' :=
  ⟨h.os.trans hb.os, h.tape.trans hb.tape, h.output.trans hb.output, Nat.le_trans hb.size h.size, fun i hi => (h.block i (by have := hb.size; omega) fun hh => by have := hs i hh; omega).trans (hb.block i hi)⟩
theorem Touch.blk {g : Nat} {t : TypeId} {cs : Array Value} (h : Touch S W W') (hb : Blk W g t cs) (hs : ¬ S g) : Blk W' g t cs := (h.block g hb.lt hs).trans hb
theorem Touch.owns {base size n : Nat} {e : TypeId} {v : Value} {xs : List Value} (h : Touch S W W') (ho : W.ownsRow base e size v n xs) (hs : ∀ i, v.ownBlock = some i → ¬ S i) : W'.ownsRow base e size v n xs := by
  refine ⟨ho.1, ?_⟩
  rcases ho.2 with hn | ⟨g, cap, cur, hv, hbg, hh, rest⟩
  · exact .inl hn
  · refine .inr ⟨g, cap, cur, hv, hbg, ?_, rest⟩
    rw [h.block g (Array.getElem?_eq_some_iff.1 hh).1 (hs g (by rw [hv]; rfl))]
    exact hh
theorem Touch.rd {size n : Nat} {v : Value} {xs : List Value} (h : Touch S W W') (hr : Rd W size v n xs) (hs : ∀ a, v = a → ∀ b o c, a = .slice (some ⟨b, o, none⟩) n c → ¬ S b) : Rd W' size v n xs := by
  obtain ⟨h1, ao, cap, rfl, h3⟩ := hr
  refine ⟨h1, ao, cap, rfl, fun hn => ?_⟩
  obtain ⟨b, o, rfl, h5, h6⟩ := h3 hn
  refine ⟨b, o, rfl, Nat.lt_of_lt_of_le h5 h.size, fun j hj => ?_⟩
  rw [World.cell?_of_block (a := ⟨b, o + j, none⟩) (h.block b h5 (hs _ rfl b o cap rfl))]
  exact h6 j hj
end
end SlRd
