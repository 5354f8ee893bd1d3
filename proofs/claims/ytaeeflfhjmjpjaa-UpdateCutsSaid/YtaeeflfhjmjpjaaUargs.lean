/- What the update laws' arguments are: raw updates, lists of numbers. -/
import Derived.Test.YtaeeflfhjmjpjaaUsame
import Derived.Test.YtaeeflfhjmjpjaaArgs
set_option linter.unusedVariables false
namespace SlRd
open Go Go.RowKit Go.ChangeShapes Go.WideShapes Go.Deep
section
variable {H : Type} {enc : TypeId × Value → H} {P : Program} {W : World} {base : Nat} {spare : Nat → Bool} {held : Bool}
theorem open_rd_in {t e : TypeId} {v : Value} {d : DataW H} {p : List MemPlace} {α : Type} [Inhabited α] (f : α → List Value) (ok : α → Prop) (size : Nat) (hs : 0 < size) (hf : ∀ a, (f a).length = size)
    (ht : P.underlying t = some (.slice e)) (hC : P.cellsOf e = size) (helem : ∀ n cs y, DataW.trod enc P W base spare held n e cs = some y → Small P e y.1 → ∃ a, cs = f a ∧ ok a)
    (hv : ∃ a n c, v = .slice a n c) (h : DataW.Trod enc P W base spare held t v d p) (hsm : Small P t d) :
    ∃ l : List α, Rd W size v l.length (l.flatMap f) ∧ (∀ a ∈ l, ok a) ∧ l.length * P.bytesOf e ≤ 140737488351232 := by
  obtain ⟨a0, len0, cap0, rfl⟩ := hv
  obtain ⟨fuel, hf2⟩ := h
  have hcs : (Value.slice a0 len0 cap0).cells.toList = [Value.slice a0 len0 cap0] := rfl
  rw [hcs] at hf2
  rcases open_slice ht hf2 with ⟨h0, _⟩ | ⟨a, len, cap, m, n, D, Pl, h0, hb, hl, hm, hmm, hx, hi⟩
  · cases h0
    exact ⟨[], Rd.nil W size, by simp, by simp⟩
  · cases h0
    simp only [Prod.mk.injEq] at hx
    obtain ⟨rfl, _⟩ := hx
    obtain ⟨hsl, hse⟩ := hsm.slice ht
    have hlm : len0 ≤ m := by rw [hmm]; split <;> omega
    obtain ⟨A, hA⟩ := choose_lt (α := α) (n := len0) (p := fun i x => ok x ∧ ∀ j, j < size → W.cell? ((a.add (i * size)).add j) = (f x)[j]?) (fun i hi' => by
      obtain ⟨cs', h1, h2⟩ := hi i (by omega)
      obtain ⟨x, rfl, hx⟩ := helem _ _ _ h2 (hse _ (List.mem_map.2 ⟨i, by simpa using hi', rfl⟩))
      rw [hC] at h1
      exact ⟨x, hx, (World.cells?_some h1).2.2⟩)
    refine ⟨(List.range len0).map A, ?_, ?_, by simpa using hsl⟩
    · refine ⟨flat_length f size hf _, some a, cap0, by simp, fun hn => ?_⟩
      have hn' : 0 < len0 := by simpa using hn
      obtain ⟨bb, oo, sp⟩ := a
      have h00 := (hA 0 hn').2 0 hs
      have hg : ∃ u, (f (A 0))[0]? = some u := ⟨_, List.getElem?_eq_getElem (by rw [hf]; exact hs)⟩
      obtain ⟨u, hu⟩ := hg
      rw [hu] at h00
      have hsp : sp = none := by
        have := World.cell?_spot h00
        simpa [Addr.add] using this
      subst hsp
      refine ⟨bb, oo, rfl, ?_, fun j hj => ?_⟩
      · rw [add_plain, add_plain] at h00
        rcases Nat.lt_or_ge bb W.heap.size with hlt | hge
        · exact hlt
        · unfold World.cell? at h00
          simp only at h00
          rw [Array.getElem?_eq_none hge] at h00
          cases h00
      · rw [List.length_map, List.length_range] at hj
        have hk : j / size < len0 := by rw [Nat.div_lt_iff_lt_mul hs]; exact hj
        have hr : j % size < size := Nat.mod_lt _ hs
        have e : j = j / size * size + j % size := by have := Nat.div_add_mod j size; rw [Nat.mul_comm] at this; omega
        have hc := (hA (j / size) hk).2 (j % size) hr
        rw [add_plain, add_plain, Nat.add_assoc, ← e] at hc
        rw [hc]
        have hk2 : j / size < ((List.range len0).map A).length := by simpa using hk
        have := flat_get f size hf ((List.range len0).map A) (j / size) (j % size) hk2 hr
        rw [← e] at this
        rw [this]
        simp
    · intro x hx'
      obtain ⟨i, hi', rfl⟩ := List.mem_map.1 hx'
      exact (hA i (by simpa using hi')).1

end
end SlRd
namespace Go.Proofs.Ytaeeflfhjmjpjaa
open Go.RowKit SlRd Go.ChangeShapes Go.WideShapes Go.Deep
theorem cells53 : Try.prog.cellsOf 53 = 5 := by kernel_rfl
theorem cells51 : Try.prog.cellsOf 51 = 1 := by kernel_rfl
theorem bytes9 : Try.prog.bytesOf 9 = 16 := by kernel_rfl
section
variable {H : Type} {enc : TypeId × Value → H} {W : World} {base : Nat} {spare : Nat → Bool} {held : Bool}
theorem open_rw {r : Reach} {b0 : Nat} {v : Value} {d : DataW H} {p : List MemPlace} (hv : Value.okWide Try.prog W r b0 53 v) (h : DataW.Trod enc Try.prog W base spare held 53 v d p) (hs : Small Try.prog 53 d) :
    ∃ (x : Rw) (vt : Value), v = .agg #[.int .i64 x.stripe, .int .i64 x.mask, .int .i64 x.epoch, .int .i64 x.seq, vt] ∧ Rd W 1 vt x.texts.length (x.texts.map Value.string) ∧ x.ok ∧ x.texts.length ≤ 140737488351232 := by
  obtain ⟨n, cs, rfl, hc⟩ := open_agg Try.underlying53 hv h
  obtain ⟨hl, hf⟩ := fields_of Try.underlying53 hc hs
  obtain ⟨l⟩ := cs
  simp only at hl hf hc
  rw [cells53] at hl
  match l, hl with
  | [c0, c1, c2, c3, c4], _ =>
    obtain ⟨_, y0, h0, s0⟩ := hf 0 0 3 rfl
    obtain ⟨_, y1, h1, s1⟩ := hf 1 1 3 rfl
    obtain ⟨_, y2, h2, s2⟩ := hf 2 2 3 rfl
    obtain ⟨_, y3, h3, s3⟩ := hf 3 3 3 rfl
    obtain ⟨m4, y4, h4, s4⟩ := hf 4 4 51 rfl
    simp only [cells3, cells51, List.drop_zero, List.drop_succ_cons, List.take_succ_cons, List.take_zero] at h0 h1 h2 h3 h4
    obtain ⟨a0, e0, _, w0⟩ := DataW.trod_int Try.underlying3 h0
    obtain ⟨a1, e1, _, w1⟩ := DataW.trod_int Try.underlying3 h1
    obtain ⟨a2, e2, _, w2⟩ := DataW.trod_int Try.underlying3 h2
    obtain ⟨a3, e3, _, w3⟩ := DataW.trod_int Try.underlying3 h3
    cases e0; cases e1; cases e2; cases e3
    have hform : ∃ a n c, c4 = .slice a n c := by
      rcases open_slice Try.underlying51 h4 with ⟨h, _⟩ | ⟨a, len, cap, _, _, _, _, h, _⟩
      · exact ⟨none, 0, 0, by simpa using h⟩
      · exact ⟨some a, len, cap, by simpa using h⟩
    have htr : DataW.Trod enc Try.prog W base spare held 51 c4 y4.1 y4.2 := by
      refine ⟨m4, ?_⟩
      obtain ⟨a, n, c, rfl⟩ := hform
      exact h4
    obtain ⟨ls, g1, g2, g3⟩ := open_rd_in (fun x : ByteArray => [Value.string x]) (fun _ => True) 1 (by decide) (fun _ => rfl) Try.underlying51 cells9 (fun n cs y hy _ => by
      obtain ⟨x, rfl, _, _⟩ := DataW.trod_string Try.underlying9 hy
      exact ⟨x, rfl, trivial⟩) hform htr s4
    rw [flat_one] at g1
    exact ⟨⟨a0, a1, a2, a3, ls⟩, c4, rfl, g1, ⟨bounds64 w0, bounds64 w1, bounds64 w2, bounds64 w3⟩, le_of_bytes (by rw [bytes9]; decide) g3⟩
end
end Go.Proofs.Ytaeeflfhjmjpjaa
