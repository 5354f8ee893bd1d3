/- The contracts that the laws take, and the walk of awake. -/
import Derived.Test.YtkedelcknkhcnaaFrameP
namespace Go.Proofs.Ytkedelcknkhcnaa
open Go.RowKit
set_option linter.unusedVariables false

theorem open_yes (s : ByteArray) (hs : s.size ≤ maxLen) (h : openOK s = true) (w : World) :
    Calls Try.prog 13 #[.string s] w fun e w' => e = .returned (.tuple #[.string (s.extract 4 (s.size - 3)), .int .i64 0]) ∧ Below w.heap.size w w' := by
  have := open_any s hs w
  rw [h] at this
  exact this
theorem open_no (s : ByteArray) (hs : s.size ≤ maxLen) (h : openOK s = false) (w : World) :
    Calls Try.prog 13 #[.string s] w fun e w' => e = .returned (.tuple #[.string ⟨#[]⟩, .int .i64 40]) ∧ Below w.heap.size w w' := by
  have := open_any s hs w
  rw [h] at this
  exact this
theorem open_of (p : ByteArray) (hp : p.size ≤ 800) (w : World) :
    Calls Try.prog 13 #[.string (frameStr p)] w fun e w' => e = .returned (.tuple #[.string p, .int .i64 0]) ∧ Below w.heap.size w w' := by
  have := open_yes (frameStr p) (by rw [frame_size]; unfold maxLen; omega) (frame_opens p hp) w
  rw [frame_body] at this
  exact this

/-- what is shorter or longer than the head says is no frame -/
theorem openOK_len (s : ByteArray) (n : Nat) (h : s.extract 0 4 = headStr (n : Int)) (hn : n ≤ 800) (hs : s.size ≠ n + 7) : openOK s = false := by
  cases hq : openOK s with
  | false => rfl
  | true =>
    obtain ⟨e, hz⟩ := open_frame s hq
    generalize s.extract 4 (s.size - 3) = p at e hz
    subst e
    rw [frame_size] at hs
    unfold frameStr bodyStr at h
    rw [ByteArray.append_assoc, extract_left _ _ _ (head_size _)] at h
    have hl := congrArg LL h
    unfold headStr at hl
    rw [LL_nums, LL_nums] at hl
    simp only [List.map_cons, List.map_nil, List.cons.injEq, and_true] at hl
    obtain ⟨_, _, h1, h2⟩ := hl
    have e1 := congrArg UInt8.toNat h1
    have e2 := congrArg UInt8.toNat h2
    rw [UInt8.toNat_ofNat', UInt8.toNat_ofNat'] at e1 e2
    omega
theorem openOK_short (s : ByteArray) (h : s.size < 7) : openOK s = false := by
  unfold openOK
  rw [decide_eq_false (p := 7 ≤ s.size) (by omega)]
  rfl

/-- behind a call that made memory alone -/
theorem below_then {w w1 w2 : World} (h1 : Below w.heap.size w w1) (h2 : Below w1.heap.size w1 w2) : Below w.heap.size w w2 := h1.trans (h2.mono h1.size)

set_option maxHeartbeats 800000 in
theorem awake_core (F : ByteArray) (w : World) (hF : F.size = 7) (h4 : ((F.extract 0 4).toList == [87, 76, 0, 0]) = true)
    (c1 : Hid (∀ w, Calls Try.prog 11 #[.string ⟨#[]⟩] w fun e w' => e = .returned (.tuple #[.string F, .int .i64 0]) ∧ Below w.heap.size w w'))
    (c2 : Hid (∀ w, Calls Try.prog 13 #[.string F] w fun e w' => e = .returned (.tuple #[.string ⟨#[]⟩, .int .i64 0]) ∧ Below w.heap.size w w'))
    (c3 : Hid (∀ w, Calls Try.prog 13 #[.string (F.extract 0 6)] w fun e w' => e = .returned (.tuple #[.string ⟨#[]⟩, .int .i64 40]) ∧ Below w.heap.size w w')) :
    Calls Try.prog 10 #[] w fun e w' => e = .returned (.bool true) ∧ Below w.heap.size w w' := by
  go_enter Try.func10, Try.ntmps10
  go_wp2_with fail
  refine (c1.out _).mono ?_; rintro e w1 ⟨rfl, hb1⟩
  go_wp2_with fail
  refine (c2.out _).mono ?_; rintro e w2 ⟨rfl, hb2⟩
  go_wp2_with fail
  refine (c3.out _).mono ?_; rintro e w3 ⟨rfl, hb3⟩
  go_wp2_with fail
  go_ret
  exact ⟨rfl, below_then (below_then hb1 hb2) hb3⟩

theorem awake_any (w : World) : Calls Try.prog 10 #[] w fun e w' => e = .returned (.bool true) ∧ Below w.heap.size w w' := by
  have e6 : openOK ((frameStr ⟨#[]⟩).extract 0 6) = false := openOK_short _ (by rw [ByteArray.size_extract]; omega)
  refine awake_core (frameStr ⟨#[]⟩) w (by rw [frame_size]; rfl) ?_ (Lib.hid (lay_any ⟨#[]⟩ (by decide))) (Lib.hid (open_of ⟨#[]⟩ (by decide))) (Lib.hid (open_no _ (by rw [ByteArray.size_extract]; unfold maxLen; omega) e6))
  rw [beq_iff_eq, LL_toList]
  unfold frameStr bodyStr
  rw [ByteArray.append_assoc, extract_left _ _ _ (head_size _)]
  rfl
end Go.Proofs.Ytkedelcknkhcnaa
