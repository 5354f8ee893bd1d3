/- FrameWhole: no beginning of a frame is one, nor anything that goes on behind it: the walk. -/
import Derived.Test.YtkedelcknkhcnaaBack
namespace Go.Proofs.Ytkedelcknkhcnaa
open Go.RowKit
set_option linter.unusedVariables false

/-- pick, for a count of at least one: some number below it -/
theorem pick_any (c : Int) (n : Nat) (hc : -9223372036854775808 ≤ c ∧ c ≤ 9223372036854775807) (hn : 0 < n) (hn2 : n ≤ 9223372036854775807) :
    ∃ k : Nat, k < n ∧ ∀ w, Calls Try.prog 15 #[.int .i64 c, .int .i64 (n : Int)] w fun e w' => e = .returned (.int .i64 (k : Int)) ∧ w = w' := by
  by_cases h : 0 ≤ c
  · have h1 : 0 ≤ c % (n : Int) := Int.emod_nonneg _ (by omega)
    have h2 : c % (n : Int) < n := Int.emod_lt_of_pos _ (by omega)
    refine ⟨(c % (n : Int)).toNat, by omega, fun w => ?_⟩
    rw [Int.toNat_of_nonneg h1]
    exact pick_pos c n h hc.2 (by omega) (by omega) w
  · have h1 : 0 ≤ (-(c + 1)) % (n : Int) := Int.emod_nonneg _ (by omega)
    have h2 : (-(c + 1)) % (n : Int) < n := Int.emod_lt_of_pos _ (by omega)
    refine ⟨((-(c + 1)) % (n : Int)).toNat, by omega, fun w => ?_⟩
    rw [Int.toNat_of_nonneg h1]
    exact pick_neg c n (by omega) hc.1 (by omega) (by omega) w

set_option maxHeartbeats 1600000 in
theorem whole_core (p m c F : ByteArray) (cut : Int) (k : Nat) (x : ByteArray) (g : Int) (w : World) (hp : p.size ≤ 140737488351232) (hm : m.size ≤ 140737488351232)
    (hc : Hid (c = p.extract 0 (min p.size 800))) (hF : F.size ≤ 807) (hF7 : 7 ≤ F.size) (hk : k < F.size) (hg : Hid (((g == 0) == m.toList.isEmpty) = true))
    (c0 : Hid (∀ w, Calls Try.prog 15 #[.int .i64 cut, .int .i64 (F.size : Int)] w fun e w' => e = .returned (.int .i64 (k : Int)) ∧ w = w'))
    (c1 : Hid (∀ w, Calls Try.prog 11 #[.string c] w fun e w' => e = .returned (.tuple #[.string F, .int .i64 0]) ∧ Below w.heap.size w w'))
    (c2 : Hid (∀ w, Calls Try.prog 13 #[.string (F.extract 0 k)] w fun e w' => e = .returned (.tuple #[.string ⟨#[]⟩, .int .i64 40]) ∧ Below w.heap.size w w'))
    (c3 : Hid (∀ w, Calls Try.prog 13 #[.string (F ++ m)] w fun e w' => e = .returned (.tuple #[.string x, .int .i64 g]) ∧ Below w.heap.size w w')) :
    Calls Try.prog 6 #[.string p, .int .i64 cut, .string m] w fun e w' => e = .returned (.bool true) ∧ Below w.heap.size w w' := by
  go_enter Try.func6, Try.ntmps6
  go_upto_region 2 with (go_at_call 10; refine (awake_any _).mono ?_; rintro e w0 ⟨rfl, hb0⟩)
  go_cut [8, 9] (fun s6 s7 wx => s6 = .string F ∧ s7 = .int .i64 0 ∧ Below w.heap.size w wx)
  case first =>
    by_cases h : p.size ≤ 800
    · have e : p.extract 0 p.size = c := by rw [hc.out, Nat.min_eq_left h]
      go_wp2_with fail
      refine (c1.out _).mono ?_; rintro e w1 ⟨rfl, hb1⟩
      go_wp2_with fail
      go_meet
      exact ⟨rfl, rfl, below_then hb0 hb1⟩
    · have e : p.extract 0 800 = c := by rw [hc.out, Nat.min_eq_right (by omega)]
      go_wp2_with fail
      refine (c1.out _).mono ?_; rintro e w1 ⟨rfl, hb1⟩
      go_wp2_with fail
      go_meet
      exact ⟨rfl, rfl, below_then hb0 hb1⟩
  case rest =>
    obtain ⟨rfl, rfl, hb1⟩ := hcut
    clear hb0
    go_wp2_with fail
    refine (c0.out _).mono ?_; rintro e w' ⟨rfl, rfl⟩
    go_wp2_with fail
    refine (c2.out _).mono ?_; rintro e w1 ⟨rfl, hb3⟩
    go_wp2_with fail
    refine (c3.out _).mono ?_; rintro e w1 ⟨rfl, hb4⟩
    go_wp2
    go_ret
    exact ⟨ret_true hg.out, below_then (below_then hb1 hb3) hb4⟩

theorem cut_no (c : ByteArray) (hc : c.size ≤ 800) (k : Nat) (hk : k < (frameStr c).size) : openOK ((frameStr c).extract 0 k) = false := by
  have hz := frame_size c
  have hs : ((frameStr c).extract 0 k).size = k := by rw [ByteArray.size_extract]; omega
  by_cases h : k < 7
  · exact openOK_short _ (by omega)
  · refine openOK_len _ c.size ?_ hc (by omega)
    rw [extract_in _ _ _ (by omega), frame_head]

theorem more_no (c m : ByteArray) (hc : c.size ≤ 800) (hm : 0 < m.size) : openOK (frameStr c ++ m) = false := by
  have hz := frame_size c
  refine openOK_len _ c.size ?_ hc (by rw [ByteArray.size_append]; omega)
  unfold frameStr bodyStr
  rw [ByteArray.append_assoc, ByteArray.append_assoc, extract_left _ _ _ (head_size _)]

theorem frameWhole_walk (p : ByteArray) (cut : Int) (m : ByteArray) (w : World) (hp : p.size ≤ 140737488351232) (hcut : -9223372036854775808 ≤ cut ∧ cut ≤ 9223372036854775807) (hm : m.size ≤ 140737488351232) :
    Calls Try.prog 6 #[.string p, .int .i64 cut, .string m] w fun e w' => e = .returned (.bool true) ∧ Below w.heap.size w w' := by
  have hc : (p.extract 0 (min p.size 800)).size ≤ 800 := by rw [ByteArray.size_extract]; omega
  generalize ec : p.extract 0 (min p.size 800) = c at hc
  have hF := frame_size c
  obtain ⟨k, hk, hpick⟩ := pick_any cut (frameStr c).size hcut (by omega) (by omega)
  have hmx : (frameStr c ++ m).size ≤ maxLen := by rw [ByteArray.size_append]; unfold maxLen; omega
  by_cases h0 : m.size = 0
  · have em : m = ⟨#[]⟩ := by
      apply LL_inj
      have := LL_length m
      rw [h0] at this
      rw [List.eq_nil_of_length_eq_zero this]
      rfl
    subst em
    have ef : frameStr c ++ ⟨#[]⟩ = frameStr c := by
      apply LL_inj
      rw [LL_append]
      exact List.append_nil _
    exact whole_core p ⟨#[]⟩ c (frameStr c) cut k c 0 w hp hm ec.symm (by omega) (by omega) hk (by show _ = true; rw [LL_toList]; rfl) (Lib.hid hpick) (Lib.hid (lay_any c hc)) (Lib.hid (open_no _ (by rw [ByteArray.size_extract]; unfold maxLen; omega) (cut_no c hc k hk)))
      (Lib.hid (by rw [ef]; exact open_of c hc))
  · have em : m.toList.isEmpty = false := by
      rw [LL_toList]
      cases hl : LL m with
      | nil => have := LL_length m; rw [hl] at this; simp at this; omega
      | cons a l => rfl
    exact whole_core p m c (frameStr c) cut k ⟨#[]⟩ 40 w hp hm ec.symm (by omega) (by omega) hk (by show _ = true; rw [em]; rfl) (Lib.hid hpick) (Lib.hid (lay_any c hc)) (Lib.hid (open_no _ (by rw [ByteArray.size_extract]; unfold maxLen; omega) (cut_no c hc k hk)))
      (Lib.hid (open_no _ hmx (more_no c m hc (by omega))))
end Go.Proofs.Ytkedelcknkhcnaa
