/- CrcLike: unlike sums that go on with the same text are unlike still, like ones like: the walk. -/
import Derived.Test.YtigclhcpdhldoaaGo
namespace Go.Proofs.Ytigclhcpdhldoaa
open Go.RowKit

theorem like_core (a b : Int) (s : ByteArray) (w : World) (X Y A B : Int) (hne : ((A == B) == (X == Y)) = true)
    (c1 : Hid (∀ w, Calls Try.prog 14 #[.int .i64 a, .string ⟨#[]⟩] w fun e w' => e = .returned (.int .i64 X) ∧ w = w'))
    (c2 : Hid (∀ w, Calls Try.prog 14 #[.int .i64 b, .string ⟨#[]⟩] w fun e w' => e = .returned (.int .i64 Y) ∧ w = w'))
    (c3 : Hid (∀ w, Calls Try.prog 14 #[.int .i64 a, .string s] w fun e w' => e = .returned (.int .i64 A) ∧ w = w'))
    (c4 : Hid (∀ w, Calls Try.prog 14 #[.int .i64 b, .string s] w fun e w' => e = .returned (.int .i64 B) ∧ w = w')) :
    Calls Try.prog 7 #[.int .i64 a, .int .i64 b, .string s] w fun e w' => e = .returned (.bool true) ∧ w = w' := by
  have Hne := Lib.hid hne
  clear hne
  go_enter Try.func7, Try.ntmps7
  go_wp2_with fail
  refine (awake_any _).mono ?_; rintro e w' ⟨rfl, rfl⟩
  go_wp2_with fail
  refine (c1.out _).mono ?_; rintro e w' ⟨rfl, rfl⟩
  go_wp2_with fail
  refine (c2.out _).mono ?_; rintro e w' ⟨rfl, rfl⟩
  go_wp2_with fail
  refine (c3.out _).mono ?_; rintro e w' ⟨rfl, rfl⟩
  go_wp2_with fail
  refine (c4.out _).mono ?_; rintro e w' ⟨rfl, rfl⟩
  go_wp2
  go_ret
  exact ⟨by rw [← Hne.out]; rfl, rfl⟩

theorem go_nil_any (n : Int) (w : World) : Calls Try.prog 14 #[.int .i64 n, .string ⟨#[]⟩] w fun e w' => e = .returned (.int .i64 ((st n).toNat : Int)) ∧ w = w' := by
  have h := go_any n ⟨#[]⟩ (by decide) w
  rw [show byts ⟨#[]⟩ = [] from rfl, CrcP.go_nil] at h
  exact h

theorem beq_nat (a b : BitVec 24) : (((a.toNat : Int) == (b.toNat : Int)) = decide (a = b)) := by
  by_cases h : a = b
  · subst h; simp
  · rw [decide_eq_false h, beq_eq_false_iff_ne]
    intro he
    exact h (BitVec.eq_of_toNat_eq (by omega))

theorem crcLike_walk (a b : Int) (s : ByteArray) (w : World) (_ha : -9223372036854775808 ≤ a ∧ a ≤ 9223372036854775807) (_hb : -9223372036854775808 ≤ b ∧ b ≤ 9223372036854775807) (hs' : s.size ≤ 140737488351232) :
    Calls Try.prog 7 #[.int .i64 a, .int .i64 b, .string s] w fun e w' => e = .returned (.bool true) ∧ Below w.heap.size w w' := by
  have hs : s.size ≤ maxLen := by unfold maxLen; omega
  refine (like_core a b s w _ _ _ _ ?_ (Lib.hid (go_nil_any a)) (Lib.hid (go_nil_any b)) (Lib.hid (go_any a s hs)) (Lib.hid (go_any b s hs))).mono ?_
  · rw [beq_nat, beq_nat, beq_iff_eq, decide_eq_decide, CrcP.go_inj]
  · rintro e w' ⟨rfl, rfl⟩
    exact ⟨rfl, Below.refl _ _⟩

end Go.Proofs.Ytigclhcpdhldoaa
