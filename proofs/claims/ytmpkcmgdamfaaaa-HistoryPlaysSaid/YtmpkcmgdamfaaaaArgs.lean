/- What the history laws' arguments are: raw acts. -/
import Derived.Test.YtmpkcmgdamfaaaaOpens
import Derived.Test.YtmpkcmgdamfaaaaHistP
import Derived.KernelRfl
namespace Go.Proofs.Ytmpkcmgdamfaaaa
open Go.RowKit SlRd Go.ChangeShapes Go.WideShapes
set_option linter.unusedVariables false

theorem cells3 : Try.prog.cellsOf 3 = 1 := by kernel_rfl
theorem cells4 : Try.prog.cellsOf 4 = 1 := by kernel_rfl
theorem cells9 : Try.prog.cellsOf 9 = 1 := by kernel_rfl
theorem cells32 : Try.prog.cellsOf 32 = 1 := by kernel_rfl
theorem cells31 : Try.prog.cellsOf 31 = 3 := by kernel_rfl
theorem cells34 : Try.prog.cellsOf 34 = 9 := by kernel_rfl
theorem bytes34 : Try.prog.bytesOf 34 = 88 := by kernel_rfl

section
variable {H : Type} {enc : TypeId × Value → H} {W : World} {base : Nat} {spare : Nat → Bool} {held : Bool}
theorem elem_op (n : Nat) (cs : List Value) (y : DataW H × List MemPlace) (h : DataW.trod enc Try.prog W base spare held n 31 cs = some y) (hs : Small Try.prog 31 y.1) : ∃ t : Op, cs = [.int .i64 t.kind, .int .i64 t.at_, .string t.data] := by
  obtain ⟨hl, hf⟩ := fields_of Try.underlying31 h hs
  rw [cells31] at hl
  match cs, hl with
  | [c0, c1, c2], _ =>
    obtain ⟨_, y0, h0, s0⟩ := hf 0 0 3 rfl
    obtain ⟨_, y1, h1, s1⟩ := hf 1 1 3 rfl
    obtain ⟨_, y2, h2, s2⟩ := hf 2 2 9 rfl
    simp only [cells3, cells9, List.drop_zero, List.drop_succ_cons, List.take_succ_cons, List.take_zero] at h0 h1 h2
    obtain ⟨a0, e0, _, w0⟩ := DataW.trod_int Try.underlying3 h0
    obtain ⟨a1, e1, _, w1⟩ := DataW.trod_int Try.underlying3 h1
    obtain ⟨a2, e2, _, _⟩ := DataW.trod_string Try.underlying9 h2
    cases e0; cases e1; cases e2
    exact ⟨⟨a0, a1, a2⟩, rfl⟩
theorem elem_act (n : Nat) (cs : List Value) (y : DataW H × List MemPlace) (h : DataW.trod enc Try.prog W base spare held n 34 cs = some y) (hs : Small Try.prog 34 y.1) : ∃ x : Ac, cs = x.cs ∧ x.ok := by
  obtain ⟨hl, hf⟩ := fields_of Try.underlying34 h hs
  rw [cells34] at hl
  match cs, hl with
  | [c0, c1, c2, c3, c4, c5, c6, c7, c8], _ =>
    obtain ⟨_, y0, h0, s0⟩ := hf 0 0 3 rfl
    obtain ⟨_, y1, h1, s1⟩ := hf 1 1 3 rfl
    obtain ⟨_, y2, h2, s2⟩ := hf 2 2 3 rfl
    obtain ⟨_, y3, h3, s3⟩ := hf 3 3 4 rfl
    obtain ⟨_, y4, h4, s4⟩ := hf 4 4 31 rfl
    obtain ⟨_, y5, h5, s5⟩ := hf 5 7 32 rfl
    obtain ⟨_, y6, h6, s6⟩ := hf 6 8 9 rfl
    simp only [cells3, cells4, cells9, cells31, cells32, List.drop_zero, List.drop_succ_cons, List.take_succ_cons, List.take_zero] at h0 h1 h2 h3 h4 h5 h6
    obtain ⟨a0, e0, _, w0⟩ := DataW.trod_int Try.underlying3 h0
    obtain ⟨a1, e1, _, w1⟩ := DataW.trod_int Try.underlying3 h1
    obtain ⟨a2, e2, _, w2⟩ := DataW.trod_int Try.underlying3 h2
    obtain ⟨a3, e3, _⟩ := DataW.trod_bool Try.underlying4 h3
    obtain ⟨a4, e4⟩ := elem_op _ _ _ h4 s4
    obtain ⟨a5, e5, _, w5⟩ := DataW.trod_int Try.underlying32 h5
    obtain ⟨a6, e6, _, _⟩ := DataW.trod_string Try.underlying9 h6
    cases e0; cases e1; cases e2; cases e3; cases e4; cases e5; cases e6
    exact ⟨⟨a0, a1, a2, a3, a4, a5, a6⟩, rfl, bounds64 w0, bounds64 w2⟩
theorem open_acts {r : Reach} {b0 : Nat} {v : Value} {d : DataW H} {p : List MemPlace} (hv : Value.okWide Try.prog W r b0 22 v) (h : DataW.Trod enc Try.prog W base spare held 22 v d p) (hs : Small Try.prog 22 d) :
    ∃ l : List Ac, Rd W 9 v l.length (l.flatMap Ac.cs) ∧ (∀ x ∈ l, x.ok) ∧ l.length ≤ 140737488351232 := by
  obtain ⟨l, h1, h2, h3⟩ := open_rd Ac.cs Ac.ok 9 (by decide) (fun _ => rfl) Try.underlying22 cells34 elem_act hv h hs
  exact ⟨l, h1, h2, le_of_bytes (by rw [bytes34]; decide) h3⟩
end
end Go.Proofs.Ytmpkcmgdamfaaaa
