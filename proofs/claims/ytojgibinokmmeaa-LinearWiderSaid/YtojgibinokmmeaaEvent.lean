/- The walks of event and Event: an event out of raw numbers. -/
import Derived.Test.YtojgibinokmmeaaCheck
namespace Go.Proofs.Ytojgibinokmmeaa
open Go.RowKit SlRd Lin
set_option linter.unusedVariables false

def sA : ByteArray := ⟨#[97]⟩
def evW (s : ByteArray) (b e : Int) : Lin.Ev := ⟨0, b, e, ⟨2, 0, s⟩, 0, ⟨#[]⟩⟩
def evR (s : ByteArray) (b e : Int) : Lin.Ev := ⟨0, b, e, ⟨1, 0, ⟨#[]⟩⟩, 0, s⟩
set_option maxHeartbeats 800000 in
theorem eventW_any (s : ByteArray) (b e : Int) (w : World) :
    Calls Try.prog 13 #[.int .i64 2, .string s, .int .i64 b, .int .i64 e] w fun r w' => r = .returned (.agg #[.int .i64 0, .int .i64 b, .int .i64 e, .int .i64 2, .int .i64 0, .string s, .int .i64 0, .string ⟨#[]⟩]) ∧ Below w.heap.size w w' := by
  go_enter Try.func13, Try.ntmps13
  go_wp2_with fail
  exact bodyPost_ret (v := (.agg #[.int .i64 0, .int .i64 b, .int .i64 e, .int .i64 2, .int .i64 0, .string s, .int .i64 0, .string ⟨#[]⟩])) (by simp [results, Try.results13, go_sem]) rfl ⟨rfl, ((Below.refl _ _).alloc (Nat.le_refl _) _).alloc (by simp) _⟩
set_option maxHeartbeats 800000 in
theorem eventR_any (s : ByteArray) (b e : Int) (w : World) :
    Calls Try.prog 13 #[.int .i64 1, .string s, .int .i64 b, .int .i64 e] w fun r w' => r = .returned (.agg #[.int .i64 0, .int .i64 b, .int .i64 e, .int .i64 1, .int .i64 0, .string ⟨#[]⟩, .int .i64 0, .string s]) ∧ Below w.heap.size w w' := by
  go_enter Try.func13, Try.ntmps13
  go_wp2_with fail
  exact bodyPost_ret (v := (.agg #[.int .i64 0, .int .i64 b, .int .i64 e, .int .i64 1, .int .i64 0, .string ⟨#[]⟩, .int .i64 0, .string s])) (by simp [results, Try.results13, go_sem]) rfl ⟨rfl, ((Below.refl _ _).alloc (Nat.le_refl _) _).alloc (by simp) _⟩
end Go.Proofs.Ytojgibinokmmeaa
