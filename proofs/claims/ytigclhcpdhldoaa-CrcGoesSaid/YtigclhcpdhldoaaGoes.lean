/- CrcGoes: for every number and all texts the law returns true. -/
import Derived.Test.YtigclhcpdhldoaaGo
namespace Go.Proofs.Ytigclhcpdhldoaa
open Go.RowKit

theorem crcGoes_walk (n : Int) (s t : ByteArray) (w : World) (_hn : -9223372036854775808 ≤ n ∧ n ≤ 9223372036854775807) (hs' : s.size ≤ 140737488351232) (ht' : t.size ≤ 140737488351232) :
    Calls Try.prog 4 #[.int .i64 n, .string s, .string t] w fun e w' => e = .returned (.bool true) ∧ Below w.heap.size w w' := by
  have hs : s.size ≤ maxLen := by unfold maxLen; omega
  have ht : t.size ≤ maxLen := by unfold maxLen; omega
  have hst : s.size + t.size ≤ 281474976710656 := by omega
  clear hs' ht'
  have hst' : (s ++ t).size ≤ maxLen := by rw [ByteArray.size_append]; unfold maxLen; omega
  have c1 : ∀ w, Calls Try.prog 14 #[.int .i64 n, .string (s ++ t)] w _ := fun w => go_any n (s ++ t) hst' w
  have c2 : ∀ w, Calls Try.prog 14 #[.int .i64 n, .string s] w _ := fun w => go_any n s hs w
  have c3 : ∀ w, Calls Try.prog 14 #[.int .i64 ((CrcP.go (st n) (byts s)).toNat : Int), .string t] w _ := fun w => go_any _ t ht w
  have c4 : ∀ w, Calls Try.prog 12 #[.string (s ++ t)] w _ := fun w => sum_any (s ++ t) hst' w
  have c5 : ∀ w, Calls Try.prog 12 #[.string s] w _ := fun w => sum_any s hs w
  have c6 : ∀ w, Calls Try.prog 14 #[.int .i64 ((CrcP.go 11994318#24 (byts s)).toNat : Int), .string t] w _ := fun w => go_any _ t ht w
  have c7 : ∀ w, Calls Try.prog 14 #[.int .i64 n, .string ⟨#[]⟩] w _ := fun w => go_any n ⟨#[]⟩ (by decide) w
  simp only [st_nat, byts_append, CrcP.go_append] at c1 c2 c3 c4 c5 c6
  rw [show byts ⟨#[]⟩ = [] from rfl, CrcP.go_nil] at c7
  have ha := and_st n
  generalize CrcP.go (CrcP.go (st n) (byts s)) (byts t) = A at c1 c3
  generalize CrcP.go (st n) (byts s) = B at c2 c3
  generalize CrcP.go (CrcP.go 11994318#24 (byts s)) (byts t) = C at c4 c6
  generalize CrcP.go 11994318#24 (byts s) = D at c5 c6
  generalize ((st n).toNat : Int) = E at c7 ha
  generalize (A.toNat : Int) = A at c1 c3
  generalize (B.toNat : Int) = B at c2 c3
  generalize (C.toNat : Int) = C at c4 c6
  generalize (D.toNat : Int) = D at c5 c6
  have C1 := Lib.hid c1; have C2 := Lib.hid c2; have C3 := Lib.hid c3; have C4 := Lib.hid c4; have C5 := Lib.hid c5; have C6 := Lib.hid c6; have C7 := Lib.hid c7
  clear c1 c2 c3 c4 c5 c6 c7
  go_enter Try.func4, Try.ntmps4
  go_wp2_with fail
  refine (awake_any _).mono ?_; rintro e w' ⟨rfl, rfl⟩
  go_wp2_with fail
  refine (C1.out _).mono ?_; rintro e w' ⟨rfl, rfl⟩
  go_wp2_with fail
  refine (C2.out _).mono ?_; rintro e w' ⟨rfl, rfl⟩
  go_wp2_with fail
  refine (C3.out _).mono ?_; rintro e w' ⟨rfl, rfl⟩
  go_wp2_with fail
  refine (C4.out _).mono ?_; rintro e w' ⟨rfl, rfl⟩
  go_wp2_with fail
  refine (C5.out _).mono ?_; rintro e w' ⟨rfl, rfl⟩
  go_wp2_with fail
  refine (C6.out _).mono ?_; rintro e w' ⟨rfl, rfl⟩
  go_wp2_with fail
  refine (C7.out _).mono ?_; rintro e w' ⟨rfl, rfl⟩
  go_wp2
  go_ret
  exact ⟨rfl, Below.refl _ _⟩

end Go.Proofs.Ytigclhcpdhldoaa
