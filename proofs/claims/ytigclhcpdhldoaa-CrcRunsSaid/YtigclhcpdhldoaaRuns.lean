/- CrcRuns: texts of one length that differ only within a run of 24 bits have unlike sums: the walk. -/
import Derived.Test.YtigclhcpdhldoaaRunsP
namespace Go.Proofs.Ytigclhcpdhldoaa
open Go.RowKit
set_option linter.unusedVariables false

set_option maxHeartbeats 800000 in
set_option maxRecDepth 100000 in
theorem runs_core (s : ByteArray) (at_ turn : Int) (fr cap : Nat) (t S : Int) (A : Nat → Int) (w W : World) (hs : s.size ≤ 140737488351232) (hs0 : 0 < s.size) (ht : 0 ≤ t) (ht2 : t < 16777215) (hfr : fr < 8 * s.size)
    (hconv : (convert 9 28 (.string s)).run Try.prog w = .ok (.slice (some ⟨w.heap.size, 0, none⟩) s.size cap) W)
    (hrow : BRow.Row W w.heap.size s.size (GG s t fr 0)) (hbel : Below w.heap.size w W)
    (hA : Hid (∀ k, k ≤ 24 → fr + k ≤ 8 * s.size → ((A k != S) == SM t k) = true))
    (c1 : Hid (∀ w, Calls Try.prog 16 #[.int .i64 turn, .int .i64 16777215] w fun e w' => e = .returned (.int .i64 t) ∧ w = w'))
    (c2 : Hid (∀ w, Calls Try.prog 16 #[.int .i64 at_, .int .i64 (8 * (s.size : Int))] w fun e w' => e = .returned (.int .i64 (fr : Int)) ∧ w = w'))
    (c3 : Hid (∀ k w, Calls Try.prog 12 #[.string (strOfNums ((List.range s.size).map (GG s t fr k)))] w fun e w' => e = .returned (.int .i64 (A k)) ∧ w = w'))
    (c4 : Hid (∀ w, Calls Try.prog 12 #[.string s] w fun e w' => e = .returned (.int .i64 S) ∧ w = w')) :
    Calls Try.prog 5 #[.string s, .int .i64 at_, .int .i64 turn] w fun e w' => e = .returned (.bool true) ∧ Below w.heap.size w w' := by
  have hne : ((s.size : Int) == 0) = false := by rw [beq_eq_false_iff_ne]; omega
  go_enter Try.func5, Try.ntmps5
  go_wp2_with fail
  refine (awake_any _).mono ?_; rintro e w' ⟨rfl, rfl⟩
  go_wp2_with fail
  refine (c1.out _).mono ?_; rintro e w' ⟨rfl, rfl⟩
  go_wp2_with fail
  refine (c2.out _).mono ?_; rintro e w' ⟨rfl, rfl⟩
  go_wp2_with fail
  clear hconv hne
  go_loopw [11, 12, 13] (fun sm i _ wr => ∃ k : Nat, k ≤ 24 ∧ fr + k ≤ 8 * s.size ∧ i = .int .i64 k ∧ sm = .bool (SM t k) ∧ BRow.Row wr w.heap.size s.size (GG s t fr k) ∧ Below w.heap.size w wr) (fun _ i _ _ => 24 - (intOf i).toNat)
  case atStart => exact ⟨0, by omega, by omega, rfl, rfl, hrow, hbel⟩
  case round =>
    obtain ⟨k, hk, hk8, rfl, rfl, hr, hb⟩ := hrel
    clear hrow hbel
    by_cases hlt : k < 24
    · by_cases hlt2 : fr + k < 8 * s.size
      · have hl3 : (fr : Int) + k < 8 * s.size := by omega
        have hidx : (fr + k) / 8 < s.size := by omega
        obtain ⟨hc, hf⟩ := hr _ hidx
        cases hT : (((1 + t) / 2 ^ (23 - k)).tmod 2 == 1)
        · have Hr := Lib.hid hr
          have Hg := Lib.hid (GG_no s t fr k hT)
          have Hm : Hid (SM t (k + 1) = SM t k) := by show (if TB t k then true else SM t k) = _; rw [show TB t k = false from hT]; rfl
          clear hr
          go_wp2_with fail
          go_roundw
          case rel => exact ⟨k + 1, by omega, by omega, by go_num, by rw [Hm.out], by rw [Hg.out]; exact Hr.out, hb⟩
          case measure => simp [intOf]; omega
        · have Hr := Lib.hid (hr.step ((fr + k) / 8) hidx (bits .xor .u8 (GG s t fr k ((fr + k) / 8)) (128 / 2 ^ ((fr + k) % 8))) (GG s t fr (k + 1)) (fun j _ => GG_yes s t fr k hT j))
          have Hm : Hid (SM t (k + 1) = true) := by show (if TB t k then true else SM t k) = _; rw [show TB t k = true from hT]; rfl
          have Hb := Lib.hid (hb.setCell (p := ⟨w.heap.size, (fr + k) / 8, none⟩) (Nat.le_refl _) (.int .u8 (bits .xor .u8 (GG s t fr k ((fr + k) / 8)) (128 / 2 ^ ((fr + k) % 8)))))
          clear hr hb
          go_wp2_with fail
          go_region
          go_wp2_with fail
          go_roundw
          case rel => exact ⟨k + 1, by omega, by omega, by go_num, by rw [Hm.out], Hr.out, Hb.out.drew⟩
          case measure => simp [intOf]; omega
      · have hl3 : 8 * (s.size : Int) ≤ (fr : Int) + k := by omega
        have hback := hr.back (P := Try.prog) 28 5 9 cap Try.underlying28 Try.underlying5 Try.underlying9
        have HA := Lib.hid (hA.out k hk hk8)
        clear hr
        go_wp2_with fail
        refine (c3.out _ _).mono ?_; rintro e w' ⟨rfl, rfl⟩
        go_wp2_with fail
        refine (c4.out _).mono ?_; rintro e w' ⟨rfl, rfl⟩
        go_wp2
        go_ret
        exact ⟨by rw [← HA.out]; rfl, hb⟩
    · have hback := hr.back (P := Try.prog) 28 5 9 cap Try.underlying28 Try.underlying5 Try.underlying9
      have HA := Lib.hid (hA.out k hk hk8)
      clear hr
      go_wp2_with fail
      refine (c3.out _ _).mono ?_; rintro e w' ⟨rfl, rfl⟩
      go_wp2_with fail
      refine (c4.out _).mono ?_; rintro e w' ⟨rfl, rfl⟩
      go_wp2
      go_ret
      exact ⟨by rw [← HA.out]; rfl, hb⟩

theorem runs_empty (s : ByteArray) (at_ turn : Int) (w : World) (hs : s.size = 0) :
    Calls Try.prog 5 #[.string s, .int .i64 at_, .int .i64 turn] w fun e w' => e = .returned (.bool true) ∧ w = w' := by
  go_enter Try.func5, Try.ntmps5
  go_wp2_with fail
  refine (awake_any _).mono ?_; rintro e w' ⟨rfl, rfl⟩
  go_wp2
  go_ret
  exact ⟨rfl, rfl⟩

theorem crcRuns_walk (s : ByteArray) (at_ turn : Int) (w : World) (hs : s.size ≤ 140737488351232) (hat : -9223372036854775808 ≤ at_ ∧ at_ ≤ 9223372036854775807) (htu : -9223372036854775808 ≤ turn ∧ turn ≤ 9223372036854775807) :
    Calls Try.prog 5 #[.string s, .int .i64 at_, .int .i64 turn] w fun e w' => e = .returned (.bool true) ∧ Below w.heap.size w w' := by
  by_cases h0 : s.size = 0
  · refine (runs_empty s at_ turn w h0).mono ?_
    rintro e w' ⟨rfl, rfl⟩
    exact ⟨rfl, Below.refl _ _⟩
  obtain ⟨t, ht, hp1⟩ := pick_any turn 16777215 htu (by omega) (by omega)
  obtain ⟨fr, hfr, hp2⟩ := pick_any at_ (8 * s.size) hat (by omega) (by omega)
  obtain ⟨W, cap, hconv, hrow, hbel, _⟩ := BRow.made (P := Try.prog) w 9 28 5 s Try.underlying9 Try.underlying28 Try.underlying5
  have hm : s.size ≤ maxLen := by unfold maxLen; omega
  have hsum : ∀ w, Calls Try.prog 12 #[.string s] w fun e w' => e = .returned (.int .i64 ((CrcP.go 11994318#24 ((List.range s.size).map fun j => BitVec.ofNat 8 (BRow.byteAt s j).toNat)).toNat : Int)) ∧ w = w' := fun w => by
    have h := sum_any s hm w
    rw [byts_same, BRow.byts_at] at h
    exact h
  have hp2' : ∀ w, Calls Try.prog 16 #[.int .i64 at_, .int .i64 (8 * (s.size : Int))] w fun e w' => e = .returned (.int .i64 (fr : Int)) ∧ w = w' := fun w => by
    have h := hp2 w
    rw [show ((8 * s.size : Nat) : Int) = 8 * (s.size : Int) from by omega] at h
    exact h
  exact runs_core s at_ turn fr cap (t : Int) _ _ w W hs (by omega) (by omega) (by omega) hfr hconv (by rw [GG_start]; exact hrow) hbel
    (Lib.hid fun k hk hk8 => runs_beq 11994318#24 s (t : Int) fr k s.size hk hk8) (Lib.hid hp1) (Lib.hid hp2') (Lib.hid fun k w => sum_str s.size (GG s (t : Int) fr k) hm w) (Lib.hid hsum)
end Go.Proofs.Ytigclhcpdhldoaa
