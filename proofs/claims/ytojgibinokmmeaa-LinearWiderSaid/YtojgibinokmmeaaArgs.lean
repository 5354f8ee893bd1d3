/- What the linear laws' arguments are: raw events, numbers. -/
import Derived.Test.YtojgibinokmmeaaOpens
import Derived.Test.YtojgibinokmmeaaRaw
import Derived.KernelRfl
namespace Go.Proofs.Ytojgibinokmmeaa
open Go.RowKit SlRd Go.ChangeShapes Go.WideShapes
set_option linter.unusedVariables false

theorem cells3' : Try.prog.cellsOf 3 = 1 := by kernel_rfl
theorem cells39' : Try.prog.cellsOf 39 = 5 := by kernel_rfl
theorem bytes39' : Try.prog.bytesOf 39 = 40 := by kernel_rfl
theorem bytes3' : Try.prog.bytesOf 3 = 8 := by kernel_rfl

section
variable {H : Type} {enc : TypeId × Value → H} {W : World} {base : Nat} {spare : Nat → Bool} {held : Bool}
theorem elem_raw (n : Nat) (cs : List Value) (y : DataW H × List MemPlace) (h : DataW.trod enc Try.prog W base spare held n 39 cs = some y) (hs : Small Try.prog 39 y.1) : ∃ x : Raw, cs = x.cs ∧ x.ok := by
  obtain ⟨hl, hf⟩ := fields_of Try.underlying39 h hs
  rw [cells39'] at hl
  match cs, hl with
  | [c0, c1, c2, c3, c4], _ =>
    obtain ⟨_, y0, h0, s0⟩ := hf 0 0 3 rfl
    obtain ⟨_, y1, h1, s1⟩ := hf 1 1 3 rfl
    obtain ⟨_, y2, h2, s2⟩ := hf 2 2 3 rfl
    obtain ⟨_, y3, h3, s3⟩ := hf 3 3 3 rfl
    obtain ⟨_, y4, h4, s4⟩ := hf 4 4 3 rfl
    simp only [cells3', List.drop_zero, List.drop_succ_cons, List.take_succ_cons, List.take_zero] at h0 h1 h2 h3 h4
    obtain ⟨a0, e0, _, w0⟩ := DataW.trod_int Try.underlying3 h0
    obtain ⟨a1, e1, _, w1⟩ := DataW.trod_int Try.underlying3 h1
    obtain ⟨a2, e2, _, w2⟩ := DataW.trod_int Try.underlying3 h2
    obtain ⟨a3, e3, _, w3⟩ := DataW.trod_int Try.underlying3 h3
    obtain ⟨a4, e4, _, w4⟩ := DataW.trod_int Try.underlying3 h4
    cases e0; cases e1; cases e2; cases e3; cases e4
    exact ⟨⟨a0, a1, a2, a3, a4⟩, rfl, bounds64 w0, bounds64 w1, bounds64 w2, bounds64 w3, bounds64 w4⟩
theorem open_raws {r : Reach} {b0 : Nat} {v : Value} {d : DataW H} {p : List MemPlace} (hv : Value.okWide Try.prog W r b0 35 v) (h : DataW.Trod enc Try.prog W base spare held 35 v d p) (hs : Small Try.prog 35 d) :
    ∃ l : List Raw, Rd W 5 v l.length (l.flatMap Raw.cs) ∧ (∀ x ∈ l, x.ok) ∧ l.length ≤ 140737488351232 := by
  obtain ⟨l, h1, h2, h3⟩ := open_rd Raw.cs Raw.ok 5 (by decide) (fun _ => rfl) Try.underlying35 cells39' elem_raw hv h hs
  exact ⟨l, h1, h2, le_of_bytes (by rw [bytes39']; decide) h3⟩
end
end Go.Proofs.Ytojgibinokmmeaa
