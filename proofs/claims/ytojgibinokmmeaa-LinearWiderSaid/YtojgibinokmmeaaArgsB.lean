/- What the linear laws' arguments are, more: lists of numbers, a raw event by its value. -/
import Derived.Test.YtojgibinokmmeaaArgs
namespace Go.Proofs.Ytojgibinokmmeaa
open Go.RowKit SlRd Go.ChangeShapes Go.WideShapes
set_option linter.unusedVariables false
section
variable {H : Type} {enc : TypeId × Value → H} {W : World} {base : Nat} {spare : Nat → Bool} {held : Bool}
theorem open_nums {r : Reach} {b0 : Nat} {v : Value} {d : DataW H} {p : List MemPlace} (hv : Value.okWide Try.prog W r b0 22 v) (h : DataW.Trod enc Try.prog W base spare held 22 v d p) (hs : Small Try.prog 22 d) :
    ∃ l : List Int, Rd W 1 v l.length (l.map (Value.int .i64)) ∧ (∀ a ∈ l, -9223372036854775808 ≤ a ∧ a ≤ 9223372036854775807) ∧ l.length ≤ 140737488351232 := by
  obtain ⟨l, h1, h2, h3⟩ := open_ints_rd Try.underlying22 Try.underlying3 cells3' hv h hs
  exact ⟨l, h1, h2, le_of_bytes (by rw [bytes3']; decide) h3⟩
theorem open_raw {r : Reach} {b0 : Nat} {v : Value} {d : DataW H} {p : List MemPlace} (hv : Value.okWide Try.prog W r b0 39 v) (h : DataW.Trod enc Try.prog W base spare held 39 v d p) (hs : Small Try.prog 39 d) :
    ∃ x : Raw, v = .agg #[.int .i64 x.kind, .int .i64 x.letter, .int .i64 x.begin_, .int .i64 x.long, .int .i64 x.how] ∧ x.ok := by
  obtain ⟨n, cs, rfl, hc⟩ := open_agg Try.underlying39 hv h
  obtain ⟨x, hx, hok⟩ := elem_raw n cs.toList (d, p) hc hs
  refine ⟨x, ?_, hok⟩
  obtain ⟨l⟩ := cs
  simp only at hx
  rw [hx]
end
end Go.Proofs.Ytojgibinokmmeaa
