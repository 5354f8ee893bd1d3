/- CrcOne: the walk. -/
import Derived.Test.YtigclhcpdhldoaaLike
import Derived.Test.YtigclhcpdhldoaaBRow
namespace Go.Proofs.Ytigclhcpdhldoaa
open Go.RowKit
set_option linter.unusedVariables false

theorem ret_true {x : Bool} (h : x = true) : Ending.returned (Value.bool x) = .returned (.bool true) := by rw [h]

theorem one_two (s t : ByteArray) (at_ a b A S : Int) (k cap : Nat) (w W : World) (hs : s.size ≤ 140737488351232) (hk : k + 1 < s.size) (hB : ((A == S) == ((a == 0) && (b == 0))) = true)
    (hconv : (convert 9 28 (.string s)).run Try.prog w = .ok (.slice (some ⟨w.heap.size, 0, none⟩) s.size cap) W)
    (hback : (convert 28 9 (.slice (some ⟨w.heap.size, 0, none⟩) s.size cap)).run Try.prog ((W.setCell ⟨w.heap.size, k, none⟩ (.int .u8 (bits .xor .u8 (BRow.byteAt s k) a))).setCell ⟨w.heap.size, k + 1, none⟩ (.int .u8 (bits .xor .u8 (BRow.byteAt s (k + 1)) b))) =
      .ok (.string t) ((W.setCell ⟨w.heap.size, k, none⟩ (.int .u8 (bits .xor .u8 (BRow.byteAt s k) a))).setCell ⟨w.heap.size, k + 1, none⟩ (.int .u8 (bits .xor .u8 (BRow.byteAt s (k + 1)) b))))
    (hc0 : W.cell? ⟨w.heap.size, k, none⟩ = some (.int .u8 (BRow.byteAt s k))) (hc1 : W.cell? ⟨w.heap.size, k + 1, none⟩ = some (.int .u8 (BRow.byteAt s (k + 1))))
    (hf0 : W.frozen? ⟨w.heap.size, k, none⟩ = false) (hf1 : W.frozen? ⟨w.heap.size, k + 1, none⟩ = false) (hbel : Below w.heap.size w W)
    (c1 : Hid (∀ w, Calls Try.prog 16 #[.int .i64 at_, .int .i64 (s.size : Int)] w fun e w' => e = .returned (.int .i64 (k : Int)) ∧ w = w'))
    (c3 : Hid (∀ w, Calls Try.prog 12 #[.string t] w fun e w' => e = .returned (.int .i64 A) ∧ w = w'))
    (c4 : Hid (∀ w, Calls Try.prog 12 #[.string s] w fun e w' => e = .returned (.int .i64 S) ∧ w = w')) :
    Calls Try.prog 8 #[.string s, .int .i64 at_, .int .u8 a, .int .u8 b] w fun e w' => e = .returned (.bool true) ∧ Below w.heap.size w w' := by
  have HB := Lib.hid hB
  clear hB
  have hne : ((s.size : Int) == 0) = false := by rw [beq_eq_false_iff_ne]; omega
  go_enter Try.func8, Try.ntmps8
  go_wp2_with fail
  refine (awake_any _).mono ?_; rintro e w' ⟨rfl, rfl⟩
  go_wp2_with fail
  refine (c1.out _).mono ?_; rintro e w' ⟨rfl, rfl⟩
  go_wp2_with fail
  refine (c3.out _).mono ?_; rintro e w' ⟨rfl, rfl⟩
  go_wp2_with fail
  refine (c4.out _).mono ?_; rintro e w' ⟨rfl, rfl⟩
  go_wp2
  · have h0 : a = 0 := by assumption
    subst h0
    go_ret
    refine ⟨by rw [← HB.out]; rfl, ?_⟩
    exact (hbel.setCell (Nat.le_refl _) _).setCell (Nat.le_refl _) _
  · have h0 : ¬ a = 0 := by assumption
    have hb := HB.out
    rw [show (a == 0) = false from by rw [beq_eq_false_iff_ne]; exact h0, Bool.false_and] at hb
    go_ret
    refine ⟨ret_true (x := !(A == S)) (by simpa using hb), ?_⟩
    exact (hbel.setCell (Nat.le_refl _) _).setCell (Nat.le_refl _) _

theorem one_last (s t : ByteArray) (at_ a b A S : Int) (k cap : Nat) (w W : World) (hs : s.size ≤ 140737488351232) (hk : k + 1 = s.size) (hB : ((A == S) == (a == 0)) = true)
    (hconv : (convert 9 28 (.string s)).run Try.prog w = .ok (.slice (some ⟨w.heap.size, 0, none⟩) s.size cap) W)
    (hback : (convert 28 9 (.slice (some ⟨w.heap.size, 0, none⟩) s.size cap)).run Try.prog (W.setCell ⟨w.heap.size, k, none⟩ (.int .u8 (bits .xor .u8 (BRow.byteAt s k) a))) =
      .ok (.string t) (W.setCell ⟨w.heap.size, k, none⟩ (.int .u8 (bits .xor .u8 (BRow.byteAt s k) a))))
    (hc0 : W.cell? ⟨w.heap.size, k, none⟩ = some (.int .u8 (BRow.byteAt s k)))
    (hf0 : W.frozen? ⟨w.heap.size, k, none⟩ = false) (hbel : Below w.heap.size w W)
    (c1 : Hid (∀ w, Calls Try.prog 16 #[.int .i64 at_, .int .i64 (s.size : Int)] w fun e w' => e = .returned (.int .i64 (k : Int)) ∧ w = w'))
    (c3 : Hid (∀ w, Calls Try.prog 12 #[.string t] w fun e w' => e = .returned (.int .i64 A) ∧ w = w'))
    (c4 : Hid (∀ w, Calls Try.prog 12 #[.string s] w fun e w' => e = .returned (.int .i64 S) ∧ w = w')) :
    Calls Try.prog 8 #[.string s, .int .i64 at_, .int .u8 a, .int .u8 b] w fun e w' => e = .returned (.bool true) ∧ Below w.heap.size w w' := by
  have HB := Lib.hid hB
  clear hB
  have hne : ((s.size : Int) == 0) = false := by rw [beq_eq_false_iff_ne]; omega
  have hk1 : k + 1 ≤ s.size := by omega
  have hk2 : s.size ≤ k + 1 := by omega
  clear hk
  go_enter Try.func8, Try.ntmps8
  go_wp2_with fail
  refine (awake_any _).mono ?_; rintro e w' ⟨rfl, rfl⟩
  go_wp2_with fail
  refine (c1.out _).mono ?_; rintro e w' ⟨rfl, rfl⟩
  go_wp2_with fail
  refine (c3.out _).mono ?_; rintro e w' ⟨rfl, rfl⟩
  go_wp2_with fail
  refine (c4.out _).mono ?_; rintro e w' ⟨rfl, rfl⟩
  go_wp2
  · have h0 : a = 0 := by assumption
    subst h0
    go_ret
    refine ⟨ret_true (x := (A == S)) (by simpa using HB.out), ?_⟩
    exact hbel.setCell (Nat.le_refl _) _
  · have h0 : ¬ a = 0 := by assumption
    have hb := HB.out
    rw [show (a == 0) = false from by rw [beq_eq_false_iff_ne]; exact h0] at hb
    go_ret
    refine ⟨ret_true (x := !(A == S)) (by simpa using hb), ?_⟩
    exact hbel.setCell (Nat.le_refl _) _

theorem one_empty (s : ByteArray) (at_ a b : Int) (w : World) (hs : s.size = 0) :
    Calls Try.prog 8 #[.string s, .int .i64 at_, .int .u8 a, .int .u8 b] w fun e w' => e = .returned (.bool true) ∧ w = w' := by
  go_enter Try.func8, Try.ntmps8
  go_wp2_with fail
  refine (awake_any _).mono ?_; rintro e w' ⟨rfl, rfl⟩
  go_wp2
  go_ret
  exact ⟨rfl, rfl⟩
end Go.Proofs.Ytigclhcpdhldoaa
