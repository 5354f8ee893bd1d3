/- FrameBack: Open undoes Lay; unlike payloads make unlike frames, and none begins another one: the walk. -/
import Derived.Test.YtkedelcknkhcnaaAwake
namespace Go.Proofs.Ytkedelcknkhcnaa
open Go.RowKit
set_option linter.unusedVariables false

theorem ret_true {x : Bool} (h : x = true) : Ending.returned (Value.bool x) = .returned (.bool true) := by rw [h]

set_option maxHeartbeats 1600000 in
theorem back_core (p q c d F G : ByteArray) (n : Nat) (w : World) (hp : p.size ≤ 140737488351232) (hq : q.size ≤ 140737488351232)
    (hc : Hid (c = p.extract 0 (min p.size 800))) (hd : Hid (d = q.extract 0 (min q.size 800))) (hF : F.size ≤ 807) (hG : G.size ≤ 807) (hc8 : c.size ≤ 800) (hd8 : d.size ≤ 800)
    (hn1 : n ≤ F.size) (hn2 : n ≤ G.size) (hn : Hid (n = F.size ∨ n = G.size)) (hn7 : 7 ≤ n)
    (hres : Hid ((((F.extract 0 n).toList == (G.extract 0 n).toList) == (c.toList == d.toList)) = true))
    (c1 : Hid (∀ w, Calls Try.prog 11 #[.string c] w fun e w' => e = .returned (.tuple #[.string F, .int .i64 0]) ∧ Below w.heap.size w w'))
    (c2 : Hid (∀ w, Calls Try.prog 11 #[.string d] w fun e w' => e = .returned (.tuple #[.string G, .int .i64 0]) ∧ Below w.heap.size w w'))
    (c3 : Hid (∀ w, Calls Try.prog 13 #[.string F] w fun e w' => e = .returned (.tuple #[.string c, .int .i64 0]) ∧ Below w.heap.size w w')) :
    Calls Try.prog 4 #[.string p, .string q] w fun e w' => e = .returned (.bool true) ∧ Below w.heap.size w w' := by
  go_enter Try.func4, Try.ntmps4
  go_upto_region 2 with (go_at_call 10; refine (awake_any _).mono ?_; rintro e w0 ⟨rfl, hb0⟩)
  go_cut [0] (fun s0 wx => s0 = .string c ∧ Below w.heap.size w wx)
  case first =>
    by_cases h : p.size ≤ 800
    · have e : p.extract 0 p.size = c := by rw [hc.out, Nat.min_eq_left h]
      go_wp2_with fail
      go_meet
      exact ⟨rfl, hb0⟩
    · have e : p.extract 0 800 = c := by rw [hc.out, Nat.min_eq_right (by omega)]
      go_wp2_with fail
      go_meet
      exact ⟨rfl, hb0⟩
  case rest =>
    obtain ⟨rfl, hb1⟩ := hcut
    clear hb0
    go_upto_region 3 with fail
    go_cut [1] (fun s1 wx => s1 = .string d ∧ Below w.heap.size w wx)
    case first =>
      by_cases h : q.size ≤ 800
      · have e : q.extract 0 q.size = d := by rw [hd.out, Nat.min_eq_left h]
        go_wp2_with fail
        go_meet
        exact ⟨rfl, hb1⟩
      · have e : q.extract 0 800 = d := by rw [hd.out, Nat.min_eq_right (by omega)]
        go_wp2_with fail
        go_meet
        exact ⟨rfl, hb1⟩
    case rest =>
      obtain ⟨rfl, hb2⟩ := hcut
      clear hb1
      go_wp2_with fail
      refine (c1.out _).mono ?_; rintro e w1 ⟨rfl, hb3⟩
      have hb4 := below_then hb2 hb3
      clear hb2 hb3
      go_wp2_with fail
      refine (c2.out _).mono ?_; rintro e w2 ⟨rfl, hb5⟩
      have hb6 := below_then hb4 hb5
      clear hb4 hb5
      go_wp2_with fail
      refine (c3.out _).mono ?_; rintro e w3 ⟨rfl, hb7⟩
      have hb8 := below_then hb6 hb7
      clear hb6 hb7
      go_upto_region 7 with fail
      go_cut [12] (fun s12 wx => s12 = .int .i64 (n : Int) ∧ Below w.heap.size w wx)
      case first =>
        by_cases h : F.size ≤ G.size
        · have e : n = F.size := by have := hn.out; omega
          subst e
          go_wp2_with fail
          go_meet
          exact ⟨rfl, hb8⟩
        · have e : n = G.size := by have := hn.out; omega
          subst e
          go_wp2_with fail
          go_meet
          exact ⟨rfl, hb8⟩
      case rest =>
        obtain ⟨rfl, hb9⟩ := hcut
        clear hb8
        have Hb := Lib.hid hb9
        clear hb9
        have i1 : (7 : Int) ≤ (n : Int) := by omega
        have i2 : (n : Int) ≤ (F.size : Int) := by omega
        have i3 : (n : Int) ≤ (G.size : Int) := by omega
        have i4 : decide ((7 : Int) ≤ (n : Int)) = true := by simpa using i1
        go_wp2_with fail
        go_quiet (fail)
        go_wp2_with fail
        go_ret
        exact ⟨ret_true hres.out, ⟨Hb.out.os, Hb.out.tape, Hb.out.output, Hb.out.size, Hb.out.block⟩⟩

theorem head_inj {a b : Nat} (ha : a ≤ 800) (hb : b ≤ 800) (h : headStr (a : Int) = headStr (b : Int)) : a = b := by
  have hl := congrArg LL h
  unfold headStr at hl
  rw [LL_nums, LL_nums] at hl
  simp only [List.map_cons, List.map_nil, List.cons.injEq, and_true] at hl
  obtain ⟨_, _, h1, h2⟩ := hl
  have e1 := congrArg UInt8.toNat h1
  have e2 := congrArg UInt8.toNat h2
  rw [UInt8.toNat_ofNat', UInt8.toNat_ofNat'] at e1 e2
  omega

theorem extract_in (s : ByteArray) (a n : Nat) (h : a ≤ n) : (s.extract 0 n).extract 0 a = s.extract 0 a := by
  apply LL_inj
  rw [LL_extract, LL_extract, LL_extract]
  simp only [List.extract_eq_take_drop, List.drop_zero, Nat.sub_zero]
  rw [List.take_take, Nat.min_eq_left h]

theorem frame_head (p : ByteArray) : (frameStr p).extract 0 4 = headStr (p.size : Int) := by
  unfold frameStr bodyStr
  rw [ByteArray.append_assoc, extract_left _ _ _ (head_size _)]

theorem toList_beq (s t : ByteArray) : (s.toList == t.toList) = decide (s = t) := by
  rw [LL_toList, LL_toList]
  by_cases h : s = t
  · subst h; simp
  · rw [decide_eq_false h, beq_eq_false_iff_ne]
    exact fun he => h (LL_inj he)

theorem frameBack_walk (p q : ByteArray) (w : World) (hp : p.size ≤ 140737488351232) (hq : q.size ≤ 140737488351232) :
    Calls Try.prog 4 #[.string p, .string q] w fun e w' => e = .returned (.bool true) ∧ Below w.heap.size w w' := by
  have hc : (p.extract 0 (min p.size 800)).size ≤ 800 := by rw [ByteArray.size_extract]; omega
  have hd : (q.extract 0 (min q.size 800)).size ≤ 800 := by rw [ByteArray.size_extract]; omega
  generalize ec : p.extract 0 (min p.size 800) = c at hc
  generalize ed : q.extract 0 (min q.size 800) = d at hd
  have hF := frame_size c
  have hG := frame_size d
  refine back_core p q c d (frameStr c) (frameStr d) (min (frameStr c).size (frameStr d).size) w hp hq ec.symm ed.symm (by omega) (by omega) hc hd (by omega) (by omega) (by show _ ∨ _; omega) (by omega) ?_ (Lib.hid (lay_any c hc)) (Lib.hid (lay_any d hd)) (Lib.hid (open_of c hc))
  show _ = true
  rw [toList_beq, toList_beq, beq_iff_eq, decide_eq_decide]
  constructor
  · intro h
    have h4 : ((frameStr c).extract 0 (min (frameStr c).size (frameStr d).size)).extract 0 4 = ((frameStr d).extract 0 (min (frameStr c).size (frameStr d).size)).extract 0 4 := by rw [h]
    rw [extract_in _ _ _ (by omega), extract_in _ _ _ (by omega), frame_head, frame_head] at h4
    have hz := head_inj hc hd h4
    rw [hF, hG, hz, Nat.min_self] at h
    have e1 : (frameStr c).extract 0 (d.size + 7) = frameStr c := by rw [← hz, ← hF]; exact cut_whole _
    have e2 : (frameStr d).extract 0 (d.size + 7) = frameStr d := by rw [← hG]; exact cut_whole _
    rw [e1, e2] at h
    exact frame_inj h
  · rintro rfl
    rfl
end Go.Proofs.Ytkedelcknkhcnaa
