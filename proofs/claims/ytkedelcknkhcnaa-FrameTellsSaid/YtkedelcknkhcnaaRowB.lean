/- A row of bytes behind a call that makes memory alone. -/
import Derived.Test.YtkedelcknkhcnaaTurned
namespace Go.Proofs.Ytkedelcknkhcnaa
open Go.RowKit
theorem row_below {W W' : World} {B n : Nat} {f : Nat → Int} (h : BRow.Row W B n f) (hb : Below W.heap.size W W') (hB : B < W.heap.size) : BRow.Row W' B n f := by
  intro j hj
  rw [hb.cell (p := ⟨B, j, none⟩) hB, hb.frozen (p := ⟨B, j, none⟩) hB]
  exact h j hj
theorem size_setCell (W : World) (p : Addr) (v : Value) : (W.setCell p v).heap.size = W.heap.size := by
  unfold World.setCell
  simp
end Go.Proofs.Ytkedelcknkhcnaa
