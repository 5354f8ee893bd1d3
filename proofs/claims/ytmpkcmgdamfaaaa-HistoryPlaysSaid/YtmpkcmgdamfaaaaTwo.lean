/- A history and the document's, both made by the call itself. -/
import Derived.Test.YtmpkcmgdamfaaaaOf
namespace Go.Proofs.Ytmpkcmgdamfaaaa
open Go.RowKit SlRd
set_option linter.unusedVariables false

structure Two (w W : World) (D : Nat → Prop) (H C : Nat) (va : Value) (sa : List Ev × Int) (R : Nat) (vb : Value) (sb : List Ev × Int) : Prop where
  a : HI W H C va sa.1 sa.2
  r : RI W R vb sb.1 sb.2
  b : Below w.heap.size w W
  n : ∀ i, HS H C va i → w.heap.size ≤ i ∧ ¬ D i ∧ ¬ RS R vb i
  m : ∀ i, RS R vb i → w.heap.size ≤ i ∧ ¬ D i
  d : ∀ i, D i → i < W.heap.size
section
variable {w W W' W'' : World} {D : Nat → Prop} {H C R : Nat} {va vb : Value} {sa sb sa' sb' : List Ev × Int}
theorem Two.below (h : Two w W D H C va sa R vb sb) (hb : Below W.heap.size W W') : Two w W' D H C va sa R vb sb :=
  ⟨h.a.below hb, h.r.below hb, below_then h.b hb, h.n, h.m, fun i hi => Nat.lt_of_lt_of_le (h.d i hi) hb.size⟩
theorem Two.drew (h : Two w W D H C va sa R vb sb) : Two w W.drew D H C va sa R vb sb := ⟨⟨h.a.h, h.a.c, h.a.own⟩, ⟨h.r.h, h.r.own⟩, below_drewN h.b 1, h.n, h.m, h.d⟩
theorem Two.less {D' : Nat → Prop} (h : Two w W D H C va sa R vb sb) (hd : ∀ i, D' i → D i) : Two w W D' H C va sa R vb sb :=
  ⟨h.a, h.r, h.b, fun i hi => ⟨(h.n i hi).1, fun hh => (h.n i hi).2.1 (hd i hh), (h.n i hi).2.2⟩, fun i hi => ⟨(h.m i hi).1, fun hh => (h.m i hi).2 (hd i hh)⟩, fun i hi => h.d i (hd i hi)⟩
theorem Two.more (h : Two w W D H C va sa R vb sb) (o : Obj) : Two w (W.alloc o) (fun i => D i ∨ i = W.heap.size) H C va sa R vb sb := by
  refine ⟨h.a.below ((Below.refl _ _).alloc (Nat.le_refl _) _), h.r.below ((Below.refl _ _).alloc (Nat.le_refl _) _), below_al h.b _, fun i hi => ⟨(h.n i hi).1, ?_, (h.n i hi).2.2⟩, fun i hi => ⟨(h.m i hi).1, ?_⟩, ?_⟩
  · rintro (hd | rfl)
    · exact (h.n i hi).2.1 hd
    · exact absurd (h.a.lt _ hi) (by omega)
  · rintro (hd | rfl)
    · exact (h.m i hi).2 hd
    · exact absurd (h.r.lt _ hi) (by omega)
  · rintro i (hd | rfl)
    · exact Nat.lt_of_lt_of_le (h.d i hd) (by simp)
    · simp
theorem Two.left (h : Two w W D H C va sa R vb sb) (hp : BgP W H C va sa' W') : ∃ va', Two w W' D H C va' sa' R vb sb := by
  obtain ⟨v', hi, ht, hv⟩ := hp
  refine ⟨v', hi, h.r.touch ht fun i hi hs => (h.n i hs).2.2 hi, ht.below h.b (fun i hi => (h.n i hi).1) (Nat.le_refl _), ?_, h.m, fun i hi => Nat.lt_of_lt_of_le (h.d i hi) ht.size⟩
  rintro i (rfl | rfl | hh)
  · exact h.n _ (.inl rfl)
  · exact h.n _ (.inr (.inl rfl))
  · rcases hv i hh with hh | hh
    · exact h.n _ (.inr (.inr hh))
    · exact ⟨Nat.le_trans h.b.size hh, fun hd => absurd (h.d i hd) (by omega), fun hr => absurd (h.r.lt i hr) (by omega)⟩
theorem Two.right (h : Two w W D H C va sa R vb sb) (hq : BgQ W R vb sb' W') : ∃ vb', Two w W' D H C va sa R vb' sb' := by
  obtain ⟨v', hi, ht, hv⟩ := hq
  refine ⟨v', h.a.touch ht fun i hi hs => (h.n i hi).2.2 hs, hi, ht.below h.b (fun i hi => (h.m i hi).1) (Nat.le_refl _), ?_, ?_, fun i hi => Nat.lt_of_lt_of_le (h.d i hi) ht.size⟩
  · intro i hx
    refine ⟨(h.n i hx).1, (h.n i hx).2.1, ?_⟩
    rintro (hR | hh)
    · exact (h.n i hx).2.2 (.inl hR)
    · rcases hv i hh with hh | hh
      · exact (h.n i hx).2.2 (.inr hh)
      · exact absurd (h.a.lt i hx) (by omega)
  · rintro i (rfl | hh)
    · exact h.m _ (.inl rfl)
    · rcases hv i hh with hh | hh
      · exact h.m _ (.inr hh)
      · exact ⟨Nat.le_trans h.b.size hh, fun hd => absurd (h.d i hd) (by omega)⟩
theorem Two.keepA (h : Two w W D H C va sa R vb sb) (hp : BgP W H C va sa' W') {g : Nat} {t : TypeId} {cs : Array Value} (hb : Blk W g t cs) (hd : D g) : Blk W' g t cs := by
  obtain ⟨v', _, ht, _⟩ := hp
  exact ht.blk hb fun hh => (h.n g hh).2.1 hd
theorem Two.keepB (h : Two w W D H C va sa R vb sb) (hq : BgQ W R vb sb' W') {g : Nat} {t : TypeId} {cs : Array Value} (hb : Blk W g t cs) (hd : D g) : Blk W' g t cs := by
  obtain ⟨v', _, ht, _⟩ := hq
  exact ht.blk hb fun hh => (h.m g hh).2 hd
/-- the two calls, one behind the other, whichever is first -/
theorem Two.leftR (h : Two w W D H C va sa R vb sb) (hp : BgP W H C va sa' W') : RI W' R vb sb.1 sb.2 := by
  obtain ⟨v', h'⟩ := h.left hp
  exact h'.r
theorem Two.rightA (h : Two w W D H C va sa R vb sb) (hq : BgQ W R vb sb' W') : HI W' H C va sa.1 sa.2 := by
  obtain ⟨v', h'⟩ := h.right hq
  exact h'.a
theorem Two.ab (h : Two w W D H C va sa R vb sb) (hp : BgP W H C va sa' W') (hq : BgQ W' R vb sb' W'') : ∃ va' vb', Two w W'' D H C va' sa' R vb' sb' := by
  obtain ⟨v', h'⟩ := h.left hp
  obtain ⟨v'', h''⟩ := h'.right hq
  exact ⟨v', v'', h''⟩
theorem Two.ba (h : Two w W D H C va sa R vb sb) (hq : BgQ W R vb sb' W') (hp : BgP W' H C va sa' W'') : ∃ va' vb', Two w W'' D H C va' sa' R vb' sb' := by
  obtain ⟨v', h'⟩ := h.right hq
  obtain ⟨v'', h''⟩ := h'.left hp
  exact ⟨v'', v', h''⟩
theorem Two.keepAB (h : Two w W D H C va sa R vb sb) (hp : BgP W H C va sa' W') (hq : BgQ W' R vb sb' W'') {g : Nat} {t : TypeId} {cs : Array Value} (hb : Blk W g t cs) (hd : D g) : Blk W'' g t cs := by
  obtain ⟨v', h'⟩ := h.left hp
  exact h'.keepB hq (h.keepA hp hb hd) hd
theorem Two.keepBA (h : Two w W D H C va sa R vb sb) (hq : BgQ W R vb sb' W') (hp : BgP W' H C va sa' W'') {g : Nat} {t : TypeId} {cs : Array Value} (hb : Blk W g t cs) (hd : D g) : Blk W'' g t cs := by
  obtain ⟨v', h'⟩ := h.right hq
  exact h'.keepA hp (h.keepB hq hb hd) hd
end

/-- so many Begins of nothing -/
def bgs : Nat → List Ev × Int
  | 0 => ([], 0)
  | n + 1 => bgE (bgs n) 0 ⟨0, 0, ⟨#[]⟩⟩
theorem bgs_ok : ∀ n, (bgs n).1.length ≤ 200 ∧ 0 ≤ (bgs n).2 ∧ (bgs n).2 ≤ n
  | 0 => by simp [bgs]
  | n + 1 => by
    have h := bgs_ok n
    have a := bgE_len (bgs n) 0 ⟨0, 0, ⟨#[]⟩⟩ h.1
    have b := bgE_t (bgs n) 0 ⟨0, 0, ⟨#[]⟩⟩
    refine ⟨a, ?_, ?_⟩
    · show 0 ≤ (bgE _ _ _).2; omega
    · show (bgE _ _ _).2 ≤ _; push_cast; omega
/-- which event an act ends -/
def pN (s : List Ev × Int) (x : Ac) : Int := if x.near then pk x.n (1 + s.1.length) else x.n
def pstep (s : List Ev × Int) (x : Ac) : List Ev × Int := if pk x.what 8 ≤ 3 then bgE s x.pilot x.op else if pk x.what 8 ≤ 6 then enE s (pN s x) x.err x.data else s
def ps (n : Nat) (l : List Ac) : List Ev × Int := l.foldl pstep (bgs n)
theorem ps_take (n : Nat) (l : List Ac) (k : Nat) (h : k < l.length) : ps n (l.take (k + 1)) = pstep (ps n (l.take k)) l[k] := by
  unfold ps
  rw [List.take_succ_eq_append_getElem h, List.foldl_append]
  rfl
theorem pstep_ok (s : List Ev × Int) (x : Ac) (h : s.1.length ≤ 200) : (pstep s x).1.length ≤ 200 ∧ s.2 ≤ (pstep s x).2 ∧ (pstep s x).2 ≤ s.2 + 1 := by
  unfold pstep
  split
  · exact ⟨bgE_len _ _ _ h, bgE_t _ _ _⟩
  · split
    · exact ⟨by rw [enE_len]; exact h, enE_t _ _ _ _⟩
    · exact ⟨h, Int.le_refl _, by omega⟩
theorem ps_ok (n : Nat) (hn : n ≤ 201) (l : List Ac) : ∀ k, k ≤ l.length → k ≤ 100 → (ps n (l.take k)).1.length ≤ 200 ∧ 0 ≤ (ps n (l.take k)).2 ∧ (ps n (l.take k)).2 ≤ 201 + k
  | 0, _, _ => by
    have := bgs_ok n
    simp only [List.take_zero, ps, List.foldl_nil]
    omega
  | k + 1, h1, h2 => by
    have := ps_ok n hn l k (by omega) (by omega)
    rw [ps_take n l k (by omega)]
    have := pstep_ok (ps n (l.take k)) l[k] this.1
    omega
end Go.Proofs.Ytmpkcmgdamfaaaa
