/- What the settle laws' arguments are: raw columns, records, tags. -/
import Derived.Test.YtaeeflfhjmjpjaaOpens
import Derived.Test.YtaeeflfhjmjpjaaColumns
import Derived.KernelRfl
namespace Go.Proofs.Ytaeeflfhjmjpjaa
open Go.RowKit SlRd Go.ChangeShapes Go.WideShapes
set_option linter.unusedVariables false

instance : Inhabited Cl := ⟨⟨0, 0, 0, ⟨#[]⟩⟩⟩
theorem cells3 : Try.prog.cellsOf 3 = 1 := by kernel_rfl
theorem cells4 : Try.prog.cellsOf 4 = 1 := by kernel_rfl
theorem cells9 : Try.prog.cellsOf 9 = 1 := by kernel_rfl
theorem cells34 : Try.prog.cellsOf 34 = 2 := by kernel_rfl
theorem cells37 : Try.prog.cellsOf 37 = 10 := by kernel_rfl
theorem cells40 : Try.prog.cellsOf 40 = 4 := by kernel_rfl
theorem bytes3 : Try.prog.bytesOf 3 = 8 := by kernel_rfl
theorem bytes4 : Try.prog.bytesOf 4 = 1 := by kernel_rfl
theorem bytes37 : Try.prog.bytesOf 37 = 96 := by kernel_rfl
theorem bytes40 : Try.prog.bytesOf 40 = 40 := by kernel_rfl

section
variable {H : Type} {enc : TypeId × Value → H} {W : World} {base : Nat} {spare : Nat → Bool} {held : Bool}
theorem elem_cl (n : Nat) (cs : List Value) (y : DataW H × List MemPlace) (h : DataW.trod enc Try.prog W base spare held n 40 cs = some y) (hs : Small Try.prog 40 y.1) : ∃ x : Cl, cs = x.cs ∧ x.ok := by
  obtain ⟨hl, hf⟩ := fields_of Try.underlying40 h hs
  rw [cells40] at hl
  match cs, hl with
  | [c0, c1, c2, c3], _ =>
    obtain ⟨_, y0, h0, s0⟩ := hf 0 0 3 rfl
    obtain ⟨_, y1, h1, s1⟩ := hf 1 1 3 rfl
    obtain ⟨_, y2, h2, s2⟩ := hf 2 2 3 rfl
    obtain ⟨_, y3, h3, s3⟩ := hf 3 3 9 rfl
    simp only [cells3, cells9, List.drop_zero, List.drop_succ_cons, List.take_succ_cons, List.take_zero] at h0 h1 h2 h3
    obtain ⟨a0, e0, _, w0⟩ := DataW.trod_int Try.underlying3 h0
    obtain ⟨a1, e1, _, w1⟩ := DataW.trod_int Try.underlying3 h1
    obtain ⟨a2, e2, _, w2⟩ := DataW.trod_int Try.underlying3 h2
    obtain ⟨a3, e3, rfl, _⟩ := DataW.trod_string Try.underlying9 h3
    cases e0; cases e1; cases e2; cases e3
    exact ⟨⟨a0, a1, a2, a3⟩, rfl, bounds64 w0, bounds64 w1, bounds64 w2, by simpa using s3.string⟩
theorem elem_tag (n : Nat) (cs : List Value) (y : DataW H × List MemPlace) (h : DataW.trod enc Try.prog W base spare held n 34 cs = some y) (hs : Small Try.prog 34 y.1) : ∃ t : Tg, cs = [.int .i64 t.e, .int .i64 t.s] := by
  obtain ⟨hl, hf⟩ := fields_of Try.underlying34 h hs
  rw [cells34] at hl
  match cs, hl with
  | [c0, c1], _ =>
    obtain ⟨_, y0, h0, s0⟩ := hf 0 0 3 rfl
    obtain ⟨_, y1, h1, s1⟩ := hf 1 1 3 rfl
    simp only [cells3, List.drop_zero, List.drop_succ_cons, List.take_succ_cons, List.take_zero] at h0 h1
    obtain ⟨a0, e0, _, w0⟩ := DataW.trod_int Try.underlying3 h0
    obtain ⟨a1, e1, _, w1⟩ := DataW.trod_int Try.underlying3 h1
    cases e0; cases e1
    exact ⟨⟨a0, a1⟩, rfl⟩
theorem elem_rec (n : Nat) (cs : List Value) (y : DataW H × List MemPlace) (h : DataW.trod enc Try.prog W base spare held n 37 cs = some y) (hs : Small Try.prog 37 y.1) : ∃ r : Rc, cs = r.cs ∧ (-9223372036854775808 ≤ r.mask ∧ r.mask ≤ 9223372036854775807) := by
  obtain ⟨hl, hf⟩ := fields_of Try.underlying37 h hs
  rw [cells37] at hl
  match cs, hl with
  | [c0, c1, c2, c3, c4, c5, c6, c7, c8, c9], _ =>
    obtain ⟨_, y0, h0, s0⟩ := hf 0 0 4 rfl
    obtain ⟨_, y1, h1, s1⟩ := hf 1 1 3 rfl
    obtain ⟨_, y2, h2, s2⟩ := hf 2 2 34 rfl
    obtain ⟨_, y3, h3, s3⟩ := hf 3 4 9 rfl
    obtain ⟨_, y4, h4, s4⟩ := hf 4 5 4 rfl
    obtain ⟨_, y5, h5, s5⟩ := hf 5 6 34 rfl
    obtain ⟨_, y6, h6, s6⟩ := hf 6 8 3 rfl
    obtain ⟨_, y7, h7, s7⟩ := hf 7 9 9 rfl
    simp only [cells3, cells4, cells9, cells34, List.drop_zero, List.drop_succ_cons, List.take_succ_cons, List.take_zero] at h0 h1 h2 h3 h4 h5 h6 h7
    obtain ⟨a0, e0, _⟩ := DataW.trod_bool Try.underlying4 h0
    obtain ⟨a1, e1, _, w1⟩ := DataW.trod_int Try.underlying3 h1
    obtain ⟨t2, e2⟩ := elem_tag _ _ _ h2 s2
    obtain ⟨a3, e3, _, _⟩ := DataW.trod_string Try.underlying9 h3
    obtain ⟨a4, e4, _⟩ := DataW.trod_bool Try.underlying4 h4
    obtain ⟨t5, e5⟩ := elem_tag _ _ _ h5 s5
    obtain ⟨a6, e6, _, w6⟩ := DataW.trod_int Try.underlying3 h6
    obtain ⟨a7, e7, _, _⟩ := DataW.trod_string Try.underlying9 h7
    cases e0; cases e1; cases e2; cases e3; cases e4; cases e5; cases e6; cases e7
    exact ⟨⟨a0, a1, t2, a3, a4, t5, a6, a7⟩, rfl, bounds64 w6⟩

theorem open_cols {r : Reach} {b0 : Nat} {v : Value} {d : DataW H} {p : List MemPlace} (hv : Value.okWide Try.prog W r b0 22 v) (h : DataW.Trod enc Try.prog W base spare held 22 v d p) (hs : Small Try.prog 22 d) :
    ∃ l : List Cl, Rd W 4 v l.length (l.flatMap Cl.cs) ∧ (∀ x ∈ l, x.ok) ∧ l.length ≤ 140737488351232 := by
  obtain ⟨l, h1, h2, h3⟩ := open_rd Cl.cs Cl.ok 4 (by decide) (fun _ => rfl) Try.underlying22 cells40 elem_cl hv h hs
  exact ⟨l, h1, h2, le_of_bytes (by rw [bytes40]; decide) h3⟩
theorem open_recs {r : Reach} {b0 : Nat} {v : Value} {d : DataW H} {p : List MemPlace} (hv : Value.okWide Try.prog W r b0 26 v) (h : DataW.Trod enc Try.prog W base spare held 26 v d p) (hs : Small Try.prog 26 d) :
    ∃ l : List Rc, Rd W 10 v l.length (l.flatMap Rc.cs) ∧ (∀ r ∈ l, -9223372036854775808 ≤ r.mask ∧ r.mask ≤ 9223372036854775807) ∧ l.length ≤ 140737488351232 := by
  obtain ⟨l, h1, h2, h3⟩ := open_rd Rc.cs (fun r => -9223372036854775808 ≤ r.mask ∧ r.mask ≤ 9223372036854775807) 10 (by decide) (fun _ => rfl) Try.underlying26 cells37 elem_rec hv h hs
  exact ⟨l, h1, h2, le_of_bytes (by rw [bytes37]; decide) h3⟩
theorem open_nums {r : Reach} {b0 : Nat} {v : Value} {d : DataW H} {p : List MemPlace} (hv : Value.okWide Try.prog W r b0 23 v) (h : DataW.Trod enc Try.prog W base spare held 23 v d p) (hs : Small Try.prog 23 d) :
    ∃ l : List Int, Rd W 1 v l.length (IV l) ∧ (∀ x ∈ l, -9223372036854775808 ≤ x ∧ x ≤ 9223372036854775807) ∧ l.length ≤ 140737488351232 := by
  obtain ⟨l, h1, h2, h3⟩ := open_ints_rd Try.underlying23 Try.underlying3 cells3 hv h hs
  exact ⟨l, h1, h2, le_of_bytes (by rw [bytes3]; decide) h3⟩
theorem open_bools {r : Reach} {b0 : Nat} {v : Value} {d : DataW H} {p : List MemPlace} (hv : Value.okWide Try.prog W r b0 25 v) (h : DataW.Trod enc Try.prog W base spare held 25 v d p) (hs : Small Try.prog 25 d) :
    ∃ l : List Bool, Rd W 1 v l.length (l.map Value.bool) ∧ l.length ≤ 140737488351232 := by
  obtain ⟨l, h1, h3⟩ := open_bools_rd Try.underlying25 Try.underlying4 cells4 hv h hs
  exact ⟨l, h1, le_of_bytes (by rw [bytes4]; decide) h3⟩
theorem open_tag {r : Reach} {b0 : Nat} {v : Value} {d : DataW H} {p : List MemPlace} (hv : Value.okWide Try.prog W r b0 34 v) (h : DataW.Trod enc Try.prog W base spare held 34 v d p) (hs : Small Try.prog 34 d) : ∃ t : Tg, v = t.v := by
  obtain ⟨n, cs, rfl, hy⟩ := open_agg Try.underlying34 hv h
  obtain ⟨t, ht⟩ := elem_tag _ _ _ hy hs
  refine ⟨t, ?_⟩
  obtain ⟨l⟩ := cs
  simp only at ht
  subst ht
  rfl
end
end Go.Proofs.Ytaeeflfhjmjpjaa
