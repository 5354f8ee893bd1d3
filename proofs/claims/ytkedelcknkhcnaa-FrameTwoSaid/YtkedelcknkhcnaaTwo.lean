/- FrameTwo: of two frames one behind the other neither is told: the walk. -/
import Derived.Test.YtkedelcknkhcnaaBack
namespace Go.Proofs.Ytkedelcknkhcnaa
open Go.RowKit
set_option linter.unusedVariables false

set_option maxHeartbeats 1600000 in
theorem two_core (p q c d F G : ByteArray) (w : World) (hp : p.size ≤ 140737488351232) (hq : q.size ≤ 140737488351232)
    (hc : Hid (c = p.extract 0 (min p.size 300))) (hd : Hid (d = q.extract 0 (min q.size 300))) (hF : F.size ≤ 307) (hG : G.size ≤ 307)
    (c1 : Hid (∀ w, Calls Try.prog 11 #[.string c] w fun e w' => e = .returned (.tuple #[.string F, .int .i64 0]) ∧ Below w.heap.size w w'))
    (c2 : Hid (∀ w, Calls Try.prog 11 #[.string d] w fun e w' => e = .returned (.tuple #[.string G, .int .i64 0]) ∧ Below w.heap.size w w'))
    (c3 : Hid (∀ w, Calls Try.prog 13 #[.string (F ++ G)] w fun e w' => e = .returned (.tuple #[.string ⟨#[]⟩, .int .i64 40]) ∧ Below w.heap.size w w'))
    (c4 : Hid (∀ w, Calls Try.prog 13 #[.string (G ++ F)] w fun e w' => e = .returned (.tuple #[.string ⟨#[]⟩, .int .i64 40]) ∧ Below w.heap.size w w')) :
    Calls Try.prog 8 #[.string p, .string q] w fun e w' => e = .returned (.bool true) ∧ Below w.heap.size w w' := by
  go_enter Try.func8, Try.ntmps8
  go_upto_region 2 with (go_at_call 10; refine (awake_any _).mono ?_; rintro e w0 ⟨rfl, hb0⟩)
  go_cut [6, 7] (fun s6 s7 wx => s6 = .string F ∧ s7 = .int .i64 0 ∧ Below w.heap.size w wx)
  case first =>
    by_cases h : p.size ≤ 300
    · have e : p.extract 0 p.size = c := by rw [hc.out, Nat.min_eq_left h]
      go_wp2_with fail
      refine (c1.out _).mono ?_; rintro e w1 ⟨rfl, hb1⟩
      go_wp2_with fail
      go_meet
      exact ⟨rfl, rfl, below_then hb0 hb1⟩
    · have e : p.extract 0 300 = c := by rw [hc.out, Nat.min_eq_right (by omega)]
      go_wp2_with fail
      refine (c1.out _).mono ?_; rintro e w1 ⟨rfl, hb1⟩
      go_wp2_with fail
      go_meet
      exact ⟨rfl, rfl, below_then hb0 hb1⟩
  case rest =>
    obtain ⟨rfl, rfl, hb1⟩ := hcut
    clear hb0
    go_upto_region 3 with fail
    go_cut [8, 9] (fun s8 s9 wx => s8 = .string G ∧ s9 = .int .i64 0 ∧ Below w.heap.size w wx)
    case first =>
      by_cases h : q.size ≤ 300
      · have e : q.extract 0 q.size = d := by rw [hd.out, Nat.min_eq_left h]
        go_wp2_with fail
        refine (c2.out _).mono ?_; rintro e w1 ⟨rfl, hb2⟩
        go_wp2_with fail
        go_meet
        exact ⟨rfl, rfl, below_then hb1 hb2⟩
      · have e : q.extract 0 300 = d := by rw [hd.out, Nat.min_eq_right (by omega)]
        go_wp2_with fail
        refine (c2.out _).mono ?_; rintro e w1 ⟨rfl, hb2⟩
        go_wp2_with fail
        go_meet
        exact ⟨rfl, rfl, below_then hb1 hb2⟩
    case rest =>
      obtain ⟨rfl, rfl, hb2⟩ := hcut
      clear hb1
      go_wp2_with fail
      refine (c3.out _).mono ?_; rintro e w1 ⟨rfl, hb3⟩
      go_wp2_with fail
      refine (c4.out _).mono ?_; rintro e w1 ⟨rfl, hb4⟩
      go_wp2
      go_ret
      exact ⟨rfl, below_then (below_then hb2 hb3) hb4⟩

theorem frameTwo_walk (p q : ByteArray) (w : World) (hp : p.size ≤ 140737488351232) (hq : q.size ≤ 140737488351232) :
    Calls Try.prog 8 #[.string p, .string q] w fun e w' => e = .returned (.bool true) ∧ Below w.heap.size w w' := by
  have hc : (p.extract 0 (min p.size 300)).size ≤ 300 := by rw [ByteArray.size_extract]; omega
  have hd : (q.extract 0 (min q.size 300)).size ≤ 300 := by rw [ByteArray.size_extract]; omega
  generalize ec : p.extract 0 (min p.size 300) = c at hc
  generalize ed : q.extract 0 (min q.size 300) = d at hd
  have hF := frame_size c
  have hG := frame_size d
  have no : ∀ x y : ByteArray, x.size ≤ 300 → y.size ≤ 300 → openOK (frameStr x ++ frameStr y) = false := fun x y hx hy => by
    have h1 := frame_size x
    have h2 := frame_size y
    refine openOK_len _ x.size ?_ (by omega) (by rw [ByteArray.size_append]; omega)
    unfold frameStr bodyStr
    rw [ByteArray.append_assoc, ByteArray.append_assoc, ByteArray.append_assoc, extract_left _ _ _ (head_size _)]
  have hm : ∀ x y : ByteArray, x.size ≤ 300 → y.size ≤ 300 → (frameStr x ++ frameStr y).size ≤ maxLen := fun x y hx hy => by
    rw [ByteArray.size_append, frame_size, frame_size]; unfold maxLen; omega
  exact two_core p q c d (frameStr c) (frameStr d) w hp hq ec.symm ed.symm (by omega) (by omega) (Lib.hid (lay_any c (by omega))) (Lib.hid (lay_any d (by omega)))
    (Lib.hid (open_no _ (hm c d hc hd) (no c d hc hd))) (Lib.hid (open_no _ (hm d c hd hc) (no d c hd hc)))
end Go.Proofs.Ytkedelcknkhcnaa
