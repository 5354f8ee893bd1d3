/- The document's layer 9: asks to prepare, to commit, to fence are right. -/
import Derived.Test.YtaeeflfhjmjpjaaApply
namespace Go.Proofs.Ytaeeflfhjmjpjaa
open Go.RowKit SlRd
set_option linter.unusedVariables false

set_option maxHeartbeats 800000 in
set_option maxRecDepth 100000 in
theorem right4 (stripe ep sq mask : Int) (b : ByteArray) (h1 : 0 ≤ stripe) (h2 : stripe < 8) (h3 : 1 ≤ ep) (h4 : ep ≤ 16777215) (h5 : 1 ≤ sq) (h6 : sq ≤ 16777215) (h7 : 1 ≤ mask) (h8 : mask ≤ 63) (hb : b.size = 16) (w : World) :
    Calls Try.prog 32 #[(⟨4, stripe, ep, sq, mask, 0, ⟨0, 0⟩, b⟩ : Ak).v] w fun e w' => e = .returned (.bool true) ∧ Below w.heap.size w w' := by
  have hn := Lib.hid (fun W => num_true ep h3 h4 W)
  have hm := Lib.hid (fun W => num_true sq h5 h6 W)
  have heq := fun W => eqAsk W ⟨4, stripe, ep, sq, mask, 0, ⟨0, 0⟩, b⟩ ⟨4, stripe, ep, sq, mask, 0, ⟨0, 0⟩, b⟩
  simp only [Ak.v, decide_true] at heq
  have hb16 : ((b.size : Int) == 16) = true := by rw [hb]; rfl
  clear hb
  go_enter Try.func32, Try.ntmps32
  go_wp2_with fail
  refine (hn.out _).mono ?_; rintro e w1 ⟨rfl, rfl⟩
  go_wp2_with fail
  refine (hm.out _).mono ?_; rintro e w2 ⟨rfl, rfl⟩
  go_wp2_with fail
  go_ret
  exact ⟨rfl, ((Below.refl _ _).alloc (Nat.le_refl _) _).alloc (by simp) _⟩
set_option maxHeartbeats 800000 in
set_option maxRecDepth 100000 in
theorem right5 (stripe ep sq : Int) (h1 : 0 ≤ stripe) (h2 : stripe < 8) (h3 : 1 ≤ ep) (h4 : ep ≤ 16777215) (h5 : 1 ≤ sq) (h6 : sq ≤ 16777215) (w : World) :
    Calls Try.prog 32 #[(⟨5, stripe, ep, sq, 0, 0, ⟨0, 0⟩, ⟨#[]⟩⟩ : Ak).v] w fun e w' => e = .returned (.bool true) ∧ Below w.heap.size w w' := by
  have hn := Lib.hid (fun W => num_true ep h3 h4 W)
  have hm := Lib.hid (fun W => num_true sq h5 h6 W)
  have heq := fun W => eqAsk W ⟨5, stripe, ep, sq, 0, 0, ⟨0, 0⟩, ⟨#[]⟩⟩ ⟨5, stripe, ep, sq, 0, 0, ⟨0, 0⟩, ⟨#[]⟩⟩
  simp only [Ak.v, decide_true] at heq
  go_enter Try.func32, Try.ntmps32
  go_wp2_with fail
  refine (hn.out _).mono ?_; rintro e w1 ⟨rfl, rfl⟩
  go_wp2_with fail
  refine (hm.out _).mono ?_; rintro e w2 ⟨rfl, rfl⟩
  go_wp2_with fail
  go_ret
  exact ⟨rfl, ((Below.refl _ _).alloc (Nat.le_refl _) _).alloc (by simp) _⟩
set_option maxHeartbeats 800000 in
set_option maxRecDepth 100000 in
theorem right1 (stripe ep : Int) (h1 : 0 ≤ stripe) (h2 : stripe < 8) (h3 : 1 ≤ ep) (h4 : ep ≤ 16777215) (w : World) :
    Calls Try.prog 32 #[(⟨1, stripe, ep, 0, 0, 0, ⟨0, 0⟩, ⟨#[]⟩⟩ : Ak).v] w fun e w' => e = .returned (.bool true) ∧ Below w.heap.size w w' := by
  have hn := Lib.hid (fun W => num_true ep h3 h4 W)
  have heq := fun W => eqAsk W ⟨1, stripe, ep, 0, 0, 0, ⟨0, 0⟩, ⟨#[]⟩⟩ ⟨1, stripe, ep, 0, 0, 0, ⟨0, 0⟩, ⟨#[]⟩⟩
  simp only [Ak.v, decide_true] at heq
  go_enter Try.func32, Try.ntmps32
  go_wp2_with fail
  refine (hn.out _).mono ?_; rintro e w1 ⟨rfl, rfl⟩
  go_wp2_with fail
  refine (num_zero _).mono ?_; rintro e w2 ⟨rfl, rfl⟩
  go_wp2_with fail
  go_ret
  exact ⟨rfl, ((Below.refl _ _).alloc (Nat.le_refl _) _).alloc (by simp) _⟩
end Go.Proofs.Ytaeeflfhjmjpjaa
