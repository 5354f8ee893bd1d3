/- '==' of two arrays of four bytes. -/
import Derived.Test.YtkedelcknkhcnaaLay
import Derived.Laws.StructEq
namespace Go.Proofs.Ytkedelcknkhcnaa
open Go.RowKit
set_option linter.unusedVariables false
theorem part4 (W : World) (cs : Array Value) (v : Value) (i : Nat) (h : cs[i]? = some v) : (part 5 cs i).run Try.prog W = .ok v W := by
  have hg : (isAgg 5).run Try.prog W = .ok false W := by kernel_rfl
  simp [part, hg, h]
theorem size5 (W : World) : (sizeOf 5).run Try.prog W = .ok 1 W := by kernel_rfl
theorem eq4 (W : World) (a0 a1 a2 a3 b0 b1 b2 b3 : Int) :
    (Op.equalIn 10000 34 (.agg #[.int .u8 a0, .int .u8 a1, .int .u8 a2, .int .u8 a3]) (.agg #[.int .u8 b0, .int .u8 b1, .int .u8 b2, .int .u8 b3])).run Try.prog W = .ok (a0 == b0 && (a1 == b1 && (a2 == b2 && a3 == b3))) W := by
  have h : ∀ (x y : Int), (Op.equalIn 9999 5 (.int .u8 x) (.int .u8 y)).run Try.prog W = .ok (x == y) W := fun x y => run_equalIn_int W 9998 5 .u8 .u8 x y Try.underlying5
  have p0 := fun x0 x1 x2 x3 => part4 W #[x0, x1, x2, x3] x0 0 rfl
  have p1 := fun x0 x1 x2 x3 => part4 W #[x0, x1, x2, x3] x1 1 rfl
  have p2 := fun x0 x1 x2 x3 => part4 W #[x0, x1, x2, x3] x2 2 rfl
  have p3 := fun x0 x1 x2 x3 => part4 W #[x0, x1, x2, x3] x3 3 rfl
  unfold Op.equalIn
  have hr : List.range' 0 4 = [0, 1, 2, 3] := rfl
  simp [run_underlying Try.underlying34, size5, p0, p1, p2, p3, h, hr]
  by_cases e0 : a0 = b0 <;> by_cases e1 : a1 = b1 <;> by_cases e2 : a2 = b2 <;> by_cases e3 : a3 = b3 <;> simp [e0, e1, e2, e3, p0, p1, p2, p3, h]
end Go.Proofs.Ytkedelcknkhcnaa
