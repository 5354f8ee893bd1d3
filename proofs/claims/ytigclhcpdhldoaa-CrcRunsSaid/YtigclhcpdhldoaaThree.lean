/- CrcThree: the walk. -/
import Derived.Test.YtigclhcpdhldoaaOneW
import Derived.RegionTactic
import Derived.BigRegion
import Derived.BigQuiet
import Derived.Deep.QuietTactic
import Derived.Deep.RegionWith
import Derived.Deep.DeepCutAuto
namespace Go.Proofs.Ytigclhcpdhldoaa
open Go.RowKit
set_option linter.unusedVariables false

theorem infoU8 : (Try.prog.info? 5).map (fun i => (i.zero, i.size, i.bytes)) = some (some (.int .u8 0), 1, 1) := by kernel_rfl

def V3 (s t u : ByteArray) (j : Nat) : Int := bits .xor .u8 (bits .xor .u8 (BRow.byteAt s j) (BRow.byteAt t j)) (BRow.byteAt u j)
theorem quiet_left {P : Program} {f : FuncId} {args : Array Value} {w : World} {n : Nat} {v : Value}
    (h : Calls P f args (w.drewN n) fun e w' => e = .returned v ∧ w.drewN n = w') : Calls P f args (w.drewN n) fun e w'' => e = .returned v ∧ ∃ m, w'' = w.drewN m :=
  h.mono fun _ _ ⟨he, hm⟩ => ⟨he, n, hm.symm⟩
theorem three_core (s t u : ByteArray) (n : Nat) (S T U : Int) (w W : World) (hs : s.size ≤ 140737488351232) (ht : t.size ≤ 140737488351232) (hu : u.size ≤ 140737488351232) (h1 : n ≤ s.size) (h2 : n ≤ t.size) (h3 : n ≤ u.size) (h4 : n = s.size ∨ n = t.size ∨ n = u.size)
    (hmk : (Instr.makeSlice 28 (.int .i64 (n : Int)) (.int .i64 (n : Int))).run Try.prog w = .ok (.slice (some ⟨w.heap.size, 0, none⟩) n n) W)
    (hrow : BRow.Row W w.heap.size n (fun _ => 0)) (hbel : Below w.heap.size w W)
    (c1 : Hid (∀ w, Calls Try.prog 12 #[.string (s.extract 0 n)] w fun e w' => e = .returned (.int .i64 S) ∧ w = w'))
    (c2 : Hid (∀ w, Calls Try.prog 12 #[.string (t.extract 0 n)] w fun e w' => e = .returned (.int .i64 T) ∧ w = w'))
    (c3 : Hid (∀ w, Calls Try.prog 12 #[.string (u.extract 0 n)] w fun e w' => e = .returned (.int .i64 U) ∧ w = w'))
    (c4 : Hid (∀ w, Calls Try.prog 12 #[.string (strOfNums ((List.range n).map (V3 s t u)))] w fun e w' => e = .returned (.int .i64 (bits .xor .i64 (bits .xor .i64 S T) U)) ∧ w = w')) :
    Calls Try.prog 9 #[.string s, .string t, .string u] w fun e w' => e = .returned (.bool true) ∧ Below w.heap.size w w' := by
  have H4 := Lib.hid h4
  clear h4
  go_enter Try.func9, Try.ntmps9
  go_upto_region 1 with fail
  go_wp2_with fail
  refine (awake_any _).mono ?_; rintro e w' ⟨rfl, rfl⟩
  go_upto_region 2 with fail
  go_cut [8] (fun s8 wx => s8 = .int .i64 (n : Int) ∧ wx = w)
  case first =>
    go_wp2_with fail
    all_goals (go_meet; exact ⟨by have h4 := H4.out; apply congrArg; (try split at *) <;> omega, rfl⟩)
  case rest =>
    obtain ⟨rfl, rfl⟩ := hcut
    go_wp2_with fail
    clear hmk
    go_loopw [10] (fun i wr => ∃ k : Nat, k ≤ n ∧ i = .int .i64 k ∧ BRow.Row wr wc.heap.size n (fun j => if j < k then V3 s t u j else 0) ∧ Below wc.heap.size wc wr) (fun i _ => n - (intOf i).toNat)
    case atStart => exact ⟨0, by omega, rfl, by simpa using hrow, hbel⟩
    case round =>
      obtain ⟨k, hk, rfl, hr, hb⟩ := hrel
      by_cases hlt : k < n
      · obtain ⟨hc, hf⟩ := hr k hlt
        simp only [Nat.lt_irrefl, if_false] at hc
        have Hr := Lib.hid (BRow.Row.step hr k hlt (V3 s t u k) (fun j => if j < k + 1 then V3 s t u j else 0) (fun j hj => by
          by_cases e : j = k
          · subst e; rw [if_pos rfl, if_pos (by omega)]
          · rw [if_neg e]
            by_cases e2 : j < k
            · rw [if_pos e2, if_pos (by omega)]
            · rw [if_neg e2, if_neg (by omega)]))
        have Hb := Lib.hid (hb.setCell (p := ⟨wc.heap.size, k, none⟩) (Nat.le_refl _) (.int .u8 (V3 s t u k)))
        have hks : k < s.size := by omega
        have hkt : k < t.size := by omega
        have hku : k < u.size := by omega
        clear hr hb hrow hbel
        go_wp2
        go_region
        go_wp2
        go_roundw
        case rel =>
          have e : bits .xor .u8 (bits .xor .u8 (s[k].toNat : Int) (t[k].toNat : Int)) (u[k].toNat : Int) = V3 s t u k := by
            unfold V3
            rw [BRow.byteAt_get s k hks, BRow.byteAt_get t k hkt, BRow.byteAt_get u k hku]
          rw [e]
          exact ⟨k + 1, by omega, by go_num, Hr.out, Hb.out.drew⟩
        case measure => simp [intOf]; omega
      · obtain rfl : k = n := by omega
        have hback : ∀ nq, (convert 28 9 (.slice (some ⟨wc.heap.size, 0, none⟩) k k)).run Try.prog (wr.drewN nq) = .ok (.string (strOfNums ((List.range k).map (V3 s t u)))) (wr.drewN nq) := fun nq => by
          refine BRow.Row.back (W := wr.drewN nq) (f := V3 s t u) ?_ 28 5 9 k Try.underlying28 Try.underlying5 Try.underlying9
          intro j hj
          have := hr j hj
          simp only [hj, if_true] at this
          exact this
        have Hb := Lib.hid hb
        clear hr hb hrow hbel
        go_wp2
        go_quiet (first
          | (go_at_call_of 12 (s.extract 0 k); exact quiet_left (c1.out _))
          | (go_at_call_of 12 (t.extract 0 k); exact quiet_left (c2.out _))
          | (go_at_call_of 12 (u.extract 0 k); exact quiet_left (c3.out _))
          | (go_at_call 12; exact quiet_left (c4.out _)))
        go_wp2
        go_ret
        exact ⟨rfl, ⟨Hb.out.os, Hb.out.tape, Hb.out.output, Hb.out.size, Hb.out.block⟩⟩

theorem i64_xor_bv (a b : BitVec 24) : bits .xor .i64 (a.toNat : Int) (b.toNat : Int) = ((a ^^^ b).toNat : Int) := by
  have ha := a.isLt
  have hb := b.isLt
  rw [i64_xor_nat _ _ (by omega) (by omega), BitVec.toNat_xor]

theorem byts_take (s : ByteArray) (n : Nat) (h : n ≤ s.size) : byts (s.extract 0 n) = (List.range n).map fun j => BitVec.ofNat 8 (BRow.byteAt s j).toNat := by
  have e : byts (s.extract 0 n) = (byts s).take n := by
    unfold byts
    rw [← List.map_take]
    rw [ByteArray.data_extract]
    simp
  rw [e, byts_same, BRow.byts_at, ← List.map_take, List.take_range, Nat.min_eq_left h]

theorem crcThree_walk (s t u : ByteArray) (w : World) (hs : s.size ≤ 140737488351232) (ht : t.size ≤ 140737488351232) (hu : u.size ≤ 140737488351232) :
    Calls Try.prog 9 #[.string s, .string t, .string u] w fun e w' => e = .returned (.bool true) ∧ Below w.heap.size w w' := by
  obtain ⟨n, h1, h2, h3, h4⟩ : ∃ n, n ≤ s.size ∧ n ≤ t.size ∧ n ≤ u.size ∧ (n = s.size ∨ n = t.size ∨ n = u.size) := ⟨min s.size (min t.size u.size), by omega, by omega, by omega, by omega⟩
  have hm : n ≤ maxLen := by unfold maxLen; omega
  obtain ⟨W, hmk, hrow, hbel, _⟩ := BRow.zeros (P := Try.prog) w 28 5 n Try.underlying28 infoU8 (by omega)
  have hsum : ∀ (x : ByteArray) (h : n ≤ x.size) (w : World), Calls Try.prog 12 #[.string (x.extract 0 n)] w fun e w' => e = .returned (.int .i64 ((CrcP.go 11994318#24 ((List.range n).map fun j => BitVec.ofNat 8 (BRow.byteAt x j).toNat)).toNat : Int)) ∧ w = w' := fun x h w => by
    have hx := sum_any (x.extract 0 n) (by rw [ByteArray.size_extract]; omega) w
    rw [byts_take x n h] at hx
    exact hx
  refine three_core s t u n _ _ _ w W hs ht hu h1 h2 h3 h4 hmk hrow hbel (Lib.hid (hsum s h1)) (Lib.hid (hsum t h2)) (Lib.hid (hsum u h3)) (Lib.hid fun w => ?_)
  have h := sum_str n (V3 s t u) hm w
  rw [i64_xor_bv, i64_xor_bv, ← CrcP.go_three _ _ _ _ (by simp) (by simp), CrcP.zip_range, CrcP.zip_range]
  have e : (List.range n).map (fun j => BitVec.ofNat 8 (V3 s t u j).toNat) = (List.range n).map (fun j => BitVec.ofNat 8 (BRow.byteAt s j).toNat ^^^ BitVec.ofNat 8 (BRow.byteAt t j).toNat ^^^ BitVec.ofNat 8 (BRow.byteAt u j).toNat) := by
    apply List.map_congr_left
    intro j _
    obtain ⟨x1, x2, x3⟩ := BRow.xor_u8 (BRow.byteAt s j) (BRow.byteAt t j) (BRow.byteAt_lt s j) (BRow.byteAt_lt t j)
    obtain ⟨y1, _, _⟩ := BRow.xor_u8 (bits .xor .u8 (BRow.byteAt s j) (BRow.byteAt t j)) (BRow.byteAt u j) ⟨x2, x3⟩ (BRow.byteAt_lt u j)
    unfold V3
    rw [y1, x1]
  rw [e] at h
  exact h
end Go.Proofs.Ytigclhcpdhldoaa
