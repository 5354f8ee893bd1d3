/- The document's layer 9: an ask to settle is right, and what it does. -/
import Derived.Test.YtaeeflfhjmjpjaaRule
namespace Go.Proofs.Ytaeeflfhjmjpjaa
open Go.RowKit SlRd
set_option linter.unusedVariables false

@[reducible] def askSettle (stripe ep mask : Int) (old : Tg) : Ak := ⟨6, stripe, ep, 0, mask, 0, old, ⟨#[]⟩⟩

set_option maxHeartbeats 800000 in
set_option maxRecDepth 100000 in
theorem right6 (stripe ep mask : Int) (old : Tg) (h1 : 0 ≤ stripe) (h2 : stripe < 8) (h3 : 1 ≤ ep) (h4 : ep ≤ 16777215) (hm : mask = 0 ∨ mask = 1) (h5 : 0 ≤ old.e) (h6 : old.e < ep) (h7 : 0 ≤ old.s) (h8 : old.s ≤ 16777215) (w : World) :
    Calls Try.prog 32 #[(askSettle stripe ep mask old).v] w fun e w' => e = .returned (.bool true) ∧ Below w.heap.size w w' := by
  obtain ⟨oe, os⟩ := old
  simp only at h5 h6 h7 h8
  have hn := Lib.hid (fun W => num_true ep h3 h4 W)
  have heq := fun W => eqAsk W ⟨6, stripe, ep, 0, mask, 0, ⟨oe, os⟩, ⟨#[]⟩⟩ ⟨6, stripe, ep, 0, mask, 0, ⟨oe, os⟩, ⟨#[]⟩⟩
  simp only [Ak.v, decide_true] at heq
  go_enter Try.func32, Try.ntmps32
  rcases hm with rfl | rfl
  all_goals
    go_wp2_with fail
    refine (hn.out _).mono ?_; rintro e w1 ⟨rfl, rfl⟩
    go_wp2_with fail
    refine (num_zero _).mono ?_; rintro e w2 ⟨rfl, rfl⟩
    go_wp2_with fail
    go_ret
    exact ⟨rfl, ((Below.refl _ _).alloc (Nat.le_refl _) _).alloc (by simp) _⟩
end Go.Proofs.Ytaeeflfhjmjpjaa
