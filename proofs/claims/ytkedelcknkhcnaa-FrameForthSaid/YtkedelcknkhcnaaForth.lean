/- FrameForth: what opens, laid again, is the frame: the walk. -/
import Derived.Test.YtkedelcknkhcnaaRowB
namespace Go.Proofs.Ytkedelcknkhcnaa
open Go.RowKit
set_option linter.unusedVariables false

def three (a b c : ByteArray) : Nat → ByteArray | 0 => a | 1 => b | _ => c

set_option maxHeartbeats 1600000 in
set_option maxRecDepth 100000 in
theorem forth_core (s p c F X : ByteArray) (at_ b : Int) (k : Nat) (ps : Nat → ByteArray) (es : Nat → Int) (w : World) (hp : p.size ≤ 140737488351232) (hs : s.size ≤ 140737488351232) 
    (hc : Hid (c = p.extract 0 (min p.size 800))) (hF : F.size ≤ 807) (hF7 : 7 ≤ F.size) (hk : k < F.size)
    (hX : Hid (strOfNums ((List.range F.size).map fun j => if j = k then b else BRow.byteAt F j) = X)) (hXz : X.size ≤ 807)
    (c0 : Hid (∀ w, Calls Try.prog 15 #[.int .i64 at_, .int .i64 (F.size : Int)] w fun e w' => e = .returned (.int .i64 (k : Int)) ∧ w = w'))
    (c1 : Hid (∀ w, Calls Try.prog 11 #[.string c] w fun e w' => e = .returned (.tuple #[.string F, .int .i64 0]) ∧ Below w.heap.size w w'))
    (c2 : Hid (∀ i, i < 3 → (∀ w, Calls Try.prog 13 #[.string (three s X F i)] w fun e w' => e = .returned (.tuple #[.string (ps i), .int .i64 (es i)]) ∧ Below w.heap.size w w') ∧
      ((es i = 40 ∧ ps i = ⟨#[]⟩ ∧ ((three s X F i).toList == F.toList) = false) ∨ (es i = 0 ∧ (ps i).size ≤ 800 ∧ ∀ w, Calls Try.prog 11 #[.string (ps i)] w fun e w' => e = .returned (.tuple #[.string (three s X F i), .int .i64 0]) ∧ Below w.heap.size w w')))) :
    Calls Try.prog 5 #[.string s, .string p, .int .i64 at_, .int .u8 b] w fun e w' => e = .returned (.bool true) ∧ Below w.heap.size w w' := by
  go_enter Try.func5, Try.ntmps5
  go_upto_region 2 with (go_at_call 10; refine (awake_any _).mono ?_; rintro e w0 ⟨rfl, hb0⟩)
  go_cut [10, 11] (fun s6 s7 wx => s6 = .string F ∧ s7 = .int .i64 0 ∧ Below w.heap.size w wx)
  case first =>
    by_cases h : p.size ≤ 800
    · have e : p.extract 0 p.size = c := by rw [hc.out, Nat.min_eq_left h]
      go_wp2_with fail
      refine (c1.out _).mono ?_; rintro e w1 ⟨rfl, hb1⟩
      go_wp2_with fail
      go_meet
      exact ⟨rfl, rfl, below_then hb0 hb1⟩
    · have e : p.extract 0 800 = c := by rw [hc.out, Nat.min_eq_right (by omega)]
      go_wp2_with fail
      refine (c1.out _).mono ?_; rintro e w1 ⟨rfl, hb1⟩
      go_wp2_with fail
      go_meet
      exact ⟨rfl, rfl, below_then hb0 hb1⟩
  case rest =>
    obtain ⟨rfl, rfl, hb1⟩ := hcut
    clear hb0
    obtain ⟨W, cap, hconv, hrow, hbel, hsz⟩ := BRow.made (P := Try.prog) wc 9 27 5 F Try.underlying9 Try.underlying27 Try.underlying5
    have hB1 := below_then hb1 hbel
    have hlow := hb1.size
    have hrow2 := hrow.step k hk b (fun j => if j = k then b else BRow.byteAt F j) (fun j hj => rfl)
    have hback := hrow2.back (P := Try.prog) 27 5 9 cap Try.underlying27 Try.underlying5 Try.underlying9
    rw [hX.out] at hback
    have hB2 := hB1.setCell (p := ⟨wc.heap.size, k, none⟩) hlow (.int .u8 b)
    obtain ⟨hcc, hf⟩ := hrow k hk
    clear hrow hbel hB1 hrow2
    go_wp2_with fail
    refine (c0.out _).mono ?_; rintro e w' ⟨rfl, rfl⟩
    go_wp2_with fail
    generalize hW' : W.setCell ⟨wc.heap.size, k, none⟩ (.int .u8 b) = W' at hB2 ⊢
    have hz : W.heap.size = W'.heap.size := by rw [← hW', size_setCell]
    have hcell : ∀ i, i < 3 → (W'.alloc (.cells #[.string s, .string X, .string F] 9)).cell? ⟨W.heap.size, i, none⟩ = some (.string (three s X F i)) := by
      intro i hi
      rw [hz, World.cell?_alloc_mark]
      match i, hi with
      | 0, _ => rfl
      | 1, _ => rfl
      | 2, _ => rfl
    have hB3 : Below w.heap.size w (W'.alloc (.cells #[.string s, .string X, .string F] 9)) := hB2.alloc hB2.size _
    have hsz3 : W.heap.size < (W'.alloc (.cells #[.string s, .string X, .string F] 9)).heap.size := by simp; omega
    clear hback hB2 hcc hf hb1 hconv hW'
    generalize W'.alloc (.cells #[.string s, .string X, .string F] 9) = W3 at hcell hB3 hsz3 ⊢
    generalize W.heap.size = B at hcell hsz3 ⊢
    go_loopw [47] (fun i wr => ∃ m : Nat, m ≤ 3 ∧ i = .int .i64 m ∧ (∀ i, i < 3 → wr.cell? ⟨B, i, none⟩ = some (.string (three s X F i))) ∧ Below w.heap.size w wr ∧ B < wr.heap.size) (fun i _ => 3 - (intOf i).toNat)
    case atStart => exact ⟨0, by omega, rfl, hcell, hB3, hsz3⟩
    case round =>
      obtain ⟨m, hm, rfl, hr, hb, hsB⟩ := hrel
      clear hcell hB3 hsz3
      by_cases hlt : m < 3
      · obtain ⟨hop, halt⟩ := c2.out m hlt
        have hrm := hr m hlt
        have hxz : (three s X F m).size ≤ 140737488351232 := by
          match m, hlt with
          | 0, _ => exact hs
          | 1, _ => show X.size ≤ _; omega
          | 2, _ => show F.size ≤ _; omega
        have Hr := Lib.hid hr
        clear hr
        generalize three s X F m = x at hop halt hrm hxz
        rcases halt with ⟨he, hps, hne⟩ | ⟨he, hpz, hl⟩
        · rw [he, hps] at hop
          have Hop := Lib.hid hop
          clear hop he hps
          go_wp2_with fail
          refine (Hop.out _).mono ?_; rintro e w1 ⟨rfl, hb2⟩
          go_wp2_with fail
          go_roundw
          case rel => exact ⟨m + 1, by omega, by go_num, fun i hi => by rw [hb2.cell (p := ⟨B, i, none⟩) hsB]; exact Hr.out i hi, below_then hb hb2, by have := hb2.size; omega⟩
          case measure => simp [intOf]; omega
        · rw [he] at hop
          have Hop := Lib.hid hop
          have Hl := Lib.hid hl
          clear hop he hl
          go_wp2_with fail
          refine (Hop.out _).mono ?_; rintro e w1 ⟨rfl, hb2⟩
          go_wp2_with fail
          refine (Hl.out _).mono ?_; rintro e w2 ⟨rfl, hb3⟩
          go_wp2_with fail
          go_roundw
          case rel => exact ⟨m + 1, by omega, by go_num, fun i hi => by rw [hb3.cell (p := ⟨B, i, none⟩) (by have := hb2.size; show B < _; omega), hb2.cell (p := ⟨B, i, none⟩) hsB]; exact Hr.out i hi, below_then (below_then hb hb2) hb3, by have := hb2.size; have := hb3.size; omega⟩
          case measure => simp [intOf]; omega
      · go_wp2_with fail
        go_ret
        exact ⟨rfl, hb⟩

theorem frameForth_walk (s p : ByteArray) (at_ b : Int) (w : World) (hs : s.size ≤ 140737488351232) (hp : p.size ≤ 140737488351232) (hat : -9223372036854775808 ≤ at_ ∧ at_ ≤ 9223372036854775807) (hb : 0 ≤ b ∧ b ≤ 255) :
    Calls Try.prog 5 #[.string s, .string p, .int .i64 at_, .int .u8 b] w fun e w' => e = .returned (.bool true) ∧ Below w.heap.size w w' := by
  have hc : (p.extract 0 (min p.size 800)).size ≤ 800 := by rw [ByteArray.size_extract]; omega
  generalize ec : p.extract 0 (min p.size 800) = c at hc
  have hF := frame_size c
  obtain ⟨k, hk, hpick⟩ := pick_any at_ (frameStr c).size hat (by omega) (by omega)
  have hXz : (strOfNums ((List.range (frameStr c).size).map fun j => if j = k then b else BRow.byteAt (frameStr c) j)).size ≤ 807 := by rw [BRow.str_size]; omega
  generalize hX : strOfNums ((List.range (frameStr c).size).map fun j => if j = k then b else BRow.byteAt (frameStr c) j) = X at hXz
  refine forth_core s p c (frameStr c) X at_ b k
    (fun i => if openOK (three s X (frameStr c) i) then (three s X (frameStr c) i).extract 4 ((three s X (frameStr c) i).size - 3) else ⟨#[]⟩)
    (fun i => if openOK (three s X (frameStr c) i) then 0 else 40) w hp hs ec.symm (by omega) (by omega) hk hX hXz (Lib.hid hpick) (Lib.hid (lay_any c hc)) (Lib.hid fun i hi => ?_)
  have hz : (three s X (frameStr c) i).size ≤ maxLen := by
    unfold maxLen
    match i, hi with
    | 0, _ => show s.size ≤ _; omega
    | 1, _ => show X.size ≤ _; omega
    | 2, _ => show (frameStr c).size ≤ _; omega
  generalize hx : three s X (frameStr c) i = x at hz ⊢
  cases ho : openOK x with
  | false =>
    refine ⟨fun w => ?_, Or.inl ⟨rfl, rfl, ?_⟩⟩
    · simp only [Bool.false_eq_true, if_false]; exact open_no _ hz ho w
    · rw [beq_eq_false_iff_ne, LL_toList, LL_toList]
      intro e
      rw [LL_inj e, frame_opens c hc] at ho
      cases ho
  | true =>
    obtain ⟨h1, h2⟩ := open_frame x ho
    refine ⟨fun w => ?_, Or.inr ⟨rfl, h2, ?_⟩⟩
    · simp only [if_true]; exact open_yes _ hz ho w
    · have h3 := lay_any _ h2
      rw [← h1] at h3
      exact h3
end Go.Proofs.Ytkedelcknkhcnaa
