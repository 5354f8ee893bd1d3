/- Begin and End of a history that the call itself made, alone or beside the document's. -/
import Derived.Test.YtmpkcmgdamfaaaaHistP
namespace Go.Proofs.Ytmpkcmgdamfaaaa
open Go.RowKit SlRd
set_option linter.unusedVariables false

def BgP (W : World) (H C : Nat) (v : Value) (s : List Ev × Int) (w' : World) : Prop := ∃ v', HI w' H C v' s.1 s.2 ∧ SlRd.Touch (HS H C v) W w' ∧ (∀ i, v'.ownBlock = some i → v.ownBlock = some i ∨ W.heap.size ≤ i)
def BgQ (W : World) (R : Nat) (v : Value) (s : List Ev × Int) (w' : World) : Prop := ∃ v', RI w' R v' s.1 s.2 ∧ SlRd.Touch (RS R v) W w' ∧ (∀ i, v'.ownBlock = some i → v.ownBlock = some i ∨ W.heap.size ≤ i)
theorem begin_all {W : World} {H C : Nat} {v : Value} {s : List Ev × Int} (hi : HI W H C v s.1 s.2) (hl : s.1.length ≤ 200) (h0 : 0 ≤ s.2) (h1 : s.2 < 1000) (p : Int) (o : Op) :
    Calls Try.prog 10 #[.pointer (some ⟨H, 0, none⟩), .int .i64 p, o.v] W fun e w' => e = .returned (.int .i64 (bgR s)) ∧ BgP W H C v (bgE s p o) w' := by
  by_cases hf : s.1.length < 200
  · refine (begin_any hi hf h0 h1 p o).mono ?_
    rintro e w' ⟨v', rfl, a, b, c⟩
    unfold bgR BgP bgE
    rw [if_pos hf, if_pos hf]
    exact ⟨rfl, v', a, b, c⟩
  · refine (begin_full hi (by omega) p o).mono ?_
    rintro e w' ⟨rfl, hb⟩
    unfold bgR BgP bgE
    rw [if_neg hf, if_neg hf]
    exact ⟨rfl, v, hi.below hb, SlRd.Touch.of_below hb, fun i hi => .inl hi⟩
theorem refBegin_all {W : World} {R : Nat} {v : Value} {s : List Ev × Int} (hi : RI W R v s.1 s.2) (hl : s.1.length ≤ 200) (h0 : 0 ≤ s.2) (h1 : s.2 < 1000) (p : Int) (o : Op) :
    Calls Try.prog 11 #[.pointer (some ⟨R, 0, none⟩), .int .i64 p, o.v] W fun e w' => e = .returned (.int .i64 (bgR s)) ∧ BgQ W R v (bgE s p o) w' := by
  by_cases hf : s.1.length < 200
  · refine (refBegin_any hi hf h0 h1 p o).mono ?_
    rintro e w' ⟨v', rfl, a, b, c⟩
    unfold bgR BgQ bgE
    rw [if_pos hf, if_pos hf]
    exact ⟨rfl, v', a, b, c⟩
  · refine (refBegin_full hi (by omega) p o).mono ?_
    rintro e w' ⟨rfl, hb⟩
    unfold bgR BgQ bgE
    rw [if_neg hf, if_neg hf]
    exact ⟨rfl, v, hi.below hb, SlRd.Touch.of_below hb, fun i hi => .inl hi⟩
theorem ends_split {evs : List Ev} {n : Int} (h : ends evs n = true) : ∃ k : Nat, n = k ∧ ∃ hk : k < evs.length, evs[k].end_ = 0 := by
  have h' := h
  unfold ends at h
  simp only [Bool.and_eq_true, decide_eq_true_eq, beq_iff_eq] at h
  obtain ⟨h0, h1, h2⟩ := h
  obtain ⟨k, rfl⟩ : ∃ k : Nat, n = k := ⟨n.toNat, by omega⟩
  have hk : k < evs.length := by omega
  rw [ends_in evs k hk] at h'
  exact ⟨k, rfl, hk, by simpa using h'⟩
theorem end_all {W : World} {H C : Nat} {v : Value} {s : List Ev × Int} (hi : HI W H C v s.1 s.2) (hl : s.1.length ≤ 200) (h0 : 0 ≤ s.2) (h1 : s.2 < 1000) (n er : Int) (da : ByteArray) (hn : -9223372036854775808 ≤ n ∧ n ≤ 9223372036854775807) :
    Calls Try.prog 12 #[.pointer (some ⟨H, 0, none⟩), .int .i64 n, .int .i64 er, .string da] W fun e w' => e = .returned (.bool (ends s.1 n)) ∧ BgP W H C v (enE s n er da) w' := by
  cases he : ends s.1 n
  · refine (end_no hi (by omega) n er da hn he).mono ?_
    rintro e w' ⟨rfl, rfl⟩
    unfold BgP enE
    rw [he]
    exact ⟨rfl, v, hi, SlRd.Touch.refl _ _, fun i hi => .inl hi⟩
  · obtain ⟨k, rfl, hk, hz⟩ := ends_split he
    refine (end_yes hi (by omega) h0 h1 k er da hk hz).mono ?_
    rintro e w' ⟨rfl, a, b⟩
    unfold BgP enE
    rw [he]
    exact ⟨rfl, v, a, b, fun i hi => .inl hi⟩
theorem refEnd_all {W : World} {R : Nat} {v : Value} {s : List Ev × Int} (hi : RI W R v s.1 s.2) (hl : s.1.length ≤ 200) (h0 : 0 ≤ s.2) (h1 : s.2 < 1000) (n er : Int) (da : ByteArray) (hn : -9223372036854775808 ≤ n ∧ n ≤ 9223372036854775807) :
    Calls Try.prog 13 #[.pointer (some ⟨R, 0, none⟩), .int .i64 n, .int .i64 er, .string da] W fun e w' => e = .returned (.bool (ends s.1 n)) ∧ BgQ W R v (enE s n er da) w' := by
  cases he : ends s.1 n
  · refine (refEnd_no hi (by omega) n er da hn he).mono ?_
    rintro e w' ⟨rfl, rfl⟩
    unfold BgQ enE
    rw [he]
    exact ⟨rfl, v, hi, SlRd.Touch.refl _ _, fun i hi => .inl hi⟩
  · obtain ⟨k, rfl, hk, hz⟩ := ends_split he
    refine (refEnd_yes hi (by omega) h0 h1 k er da hk hz).mono ?_
    rintro e w' ⟨rfl, a, b⟩
    unfold BgQ enE
    rw [he]
    exact ⟨rfl, v, a, b, fun i hi => .inl hi⟩

/-- a history that the call itself made; blocks of D are others -/
structure Own (w W : World) (D : Nat → Prop) (H C : Nat) (v : Value) (s : List Ev × Int) : Prop where
  i : HI W H C v s.1 s.2
  b : Below w.heap.size w W
  n : ∀ i, HS H C v i → w.heap.size ≤ i ∧ ¬ D i
  d : ∀ i, D i → i < W.heap.size
section
variable {w W W' : World} {D : Nat → Prop} {H C : Nat} {v v' : Value} {s s' : List Ev × Int}
theorem Own.below (h : Own w W D H C v s) (hb : Below W.heap.size W W') : Own w W' D H C v s := ⟨h.i.below hb, below_then h.b hb, h.n, fun i hi => Nat.lt_of_lt_of_le (h.d i hi) hb.size⟩
theorem Own.next (h : Own w W D H C v s) (hp : BgP W H C v s' W') : ∃ v', Own w W' D H C v' s' ∧ SlRd.Touch (HS H C v) W W' := by
  obtain ⟨v', hi, ht, hv⟩ := hp
  refine ⟨v', ⟨hi, ht.below h.b (fun i hi => (h.n i hi).1) (Nat.le_refl _), ?_, fun i hi => Nat.lt_of_lt_of_le (h.d i hi) ht.size⟩, ht⟩
  rintro i (rfl | rfl | hh)
  · exact h.n _ (.inl rfl)
  · exact h.n _ (.inr (.inl rfl))
  · rcases hv i hh with hh | hh
    · exact h.n _ (.inr (.inr hh))
    · exact ⟨Nat.le_trans h.b.size hh, fun hd => absurd (h.d i hd) (by omega)⟩
theorem Own.made (hi : HI W H C (.slice none 0 0) s.1 s.2) (hb : Below w.heap.size w W) (h1 : w.heap.size ≤ H) (h2 : w.heap.size ≤ C) : Own w W (fun _ => False) H C (.slice none 0 0) s :=
  ⟨hi, hb, (by
    rintro i (rfl | rfl | hh)
    · exact ⟨h1, id⟩
    · exact ⟨h2, id⟩
    · cases hh), fun i hi => False.elim hi⟩
/-- a block that is made now is another one -/
theorem Own.more (h : Own w W D H C v s) (o : Obj) : Own w (W.alloc o) (fun i => D i ∨ i = W.heap.size) H C v s :=
  ⟨h.i.below ((Below.refl _ _).alloc (Nat.le_refl _) _), below_al h.b _, fun i hi => ⟨(h.n i hi).1, by
    rintro (hd | rfl)
    · exact (h.n i hi).2 hd
    · exact absurd (h.i.lt _ hi) (by omega)⟩, by
    rintro i (hd | rfl)
    · exact Nat.lt_of_lt_of_le (h.d i hd) (by simp)
    · simp⟩
theorem Own.less {D' : Nat → Prop} (h : Own w W D H C v s) (hd : ∀ i, D' i → D i) : Own w W D' H C v s := ⟨h.i, h.b, fun i hi => ⟨(h.n i hi).1, fun hh => (h.n i hi).2 (hd i hh)⟩, fun i hi => h.d i (hd i hi)⟩
theorem Own.blk (h : Own w W D H C v s) (ht : SlRd.Touch (HS H C v) W W') {g : Nat} {t : TypeId} {cs : Array Value} (hb : Blk W g t cs) (hd : D g) : Blk W' g t cs := ht.blk hb fun hh => (h.n g hh).2 hd
end
end Go.Proofs.Ytmpkcmgdamfaaaa
