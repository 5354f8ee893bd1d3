/- Names: the walk of a body that is one constant. -/
import Derived.Test.YtacmhadajjgdbaaProg
import Derived.WalkKit
namespace Go.Proofs.Ytacmhadajjgdbaa
open Go.RowKit
theorem names_walk (w : World) : Calls Try.prog 3 #[] w fun e w' => e = .returned (.bool true) ∧ Below w.heap.size w w' := by
  go_enter Try.func3, Try.ntmps3
  go_wp2
  go_ret
  exact ⟨rfl, Below.refl _ _⟩
end Go.Proofs.Ytacmhadajjgdbaa
