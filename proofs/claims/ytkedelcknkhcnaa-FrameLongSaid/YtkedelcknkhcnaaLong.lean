/- FrameLong: a frame has seven bytes more than what it bears; what is too long has none: the walk. -/
import Derived.Test.YtkedelcknkhcnaaRowB
namespace Go.Proofs.Ytkedelcknkhcnaa
open Go.RowKit
set_option linter.unusedVariables false

def rep (k : Nat) (b : Int) : ByteArray := strOfNums ((List.range k).map fun _ => b)
theorem rep_size (k : Nat) (b : Int) : (rep k b).size = k := BRow.str_size _ _
theorem infoU8 : (Try.prog.info? 5).map (fun i => (i.zero, i.size, i.bytes)) = some (some (.int .u8 0), 1, 1) := by kernel_rfl

set_option maxHeartbeats 1600000 in
set_option maxRecDepth 100000 in
theorem long_core (long b : Int) (k : Nat) (hk : k < 901) (w : World)
    (c0 : Hid (∀ w, Calls Try.prog 15 #[.int .i64 long, .int .i64 901] w fun e w' => e = .returned (.int .i64 (k : Int)) ∧ w = w')) :
    Calls Try.prog 9 #[.int .i64 long, .int .u8 b] w fun e w' => e = .returned (.bool true) ∧ Below w.heap.size w w' := by
  go_enter Try.func9, Try.ntmps9
  go_wp2_with fail
  refine (awake_any _).mono ?_; rintro e w0 ⟨rfl, hb0⟩
  go_wp2_with fail
  refine (c0.out _).mono ?_; rintro e w' ⟨rfl, rfl⟩
  obtain ⟨W, hmk, hrow, hbel, hsz⟩ := BRow.zeros (P := Try.prog) w0 27 5 k Try.underlying27 infoU8 (by omega)
  have hB := below_then hb0 hbel
  have hlow := hb0.size
  clear hb0 hbel
  go_wp2_with fail
  clear hmk
  go_loopw [7] (fun i wr => ∃ m : Nat, m ≤ k ∧ i = .int .i64 m ∧ BRow.Row wr w0.heap.size k (fun j => if j < m then b else 0) ∧ Below w.heap.size w wr ∧ w0.heap.size < wr.heap.size) (fun i _ => k - (intOf i).toNat)
  case atStart => exact ⟨0, by omega, rfl, by simpa using hrow, hB, hsz⟩
  case round =>
    obtain ⟨m, hm, rfl, hr, hb, hs⟩ := hrel
    clear hrow hB hsz
    by_cases hlt : m < k
    · obtain ⟨hc, hf⟩ := hr m hlt
      simp only [Nat.lt_irrefl, if_false] at hc
      have Hr := Lib.hid (BRow.Row.step hr m hlt b (fun j => if j < m + 1 then b else 0) (fun j hj => by
        by_cases e : j = m
        · subst e; rw [if_pos rfl, if_pos (by omega)]
        · rw [if_neg e]
          by_cases e2 : j < m
          · rw [if_pos e2, if_pos (by omega)]
          · rw [if_neg e2, if_neg (by omega)]))
      have Hb := Lib.hid (hb.setCell (p := ⟨w0.heap.size, m, none⟩) hlow (.int .u8 b))
      have Hs : Hid (w0.heap.size < (wr.setCell ⟨w0.heap.size, m, none⟩ (.int .u8 b)).heap.size) := by show _ < _; rw [size_setCell]; exact hs
      clear hr hb hs
      go_wp2_with fail
      go_roundw
      case rel => exact ⟨m + 1, by omega, by go_num, Hr.out, Hb.out, Hs.out⟩
      case measure => simp [intOf]; omega
    · obtain rfl : m = k := by omega
      have hr' : BRow.Row wr w0.heap.size m (fun _ => b) := by
        intro j hj
        have := hr j hj
        simp only [hj, if_true] at this
        exact this
      have hback : (convert 27 9 (.slice (some ⟨w0.heap.size, 0, none⟩) m m)).run Try.prog wr = .ok (.string (rep m b)) wr := hr'.back 27 5 9 m Try.underlying27 Try.underlying5 Try.underlying9
      have Hr := Lib.hid hr'
      clear hr hr'
      by_cases h8 : m ≤ 800
      · have hz : (rep m b).size ≤ 800 := by rw [rep_size]; omega
        have hfz : (frameStr (rep m b)).size = m + 7 := by rw [frame_size, rep_size]
        go_wp2_with fail
        refine (lay_any _ hz _).mono ?_; rintro e w1 ⟨rfl, hb1⟩
        have hrow1 := Lib.hid (row_below Hr.out hb1 hs)
        have hs1 : w0.heap.size < w1.heap.size := by have := hb1.size; omega
        have hB1 := below_then hb hb1
        clear hback hb hb1
        go_wp2_with fail
        refine (open_of _ hz _).mono ?_; rintro e w2 ⟨rfl, hb2⟩
        have hrow2 := row_below hrow1.out hb2 hs1
        have hback2 : (convert 27 9 (.slice (some ⟨w0.heap.size, 0, none⟩) m m)).run Try.prog w2 = .ok (.string (rep m b)) w2 := hrow2.back 27 5 9 m Try.underlying27 Try.underlying5 Try.underlying9
        have hB2 := below_then hB1 hb2
        clear hrow2 hB1 hb2
        go_wp2_with fail
        go_ret
        exact ⟨rfl, hB2⟩
      · go_wp2_with fail
        refine (lay_long _ (by rw [rep_size]; omega) (by rw [rep_size]; unfold maxLen; omega) _).mono ?_; rintro e w1 ⟨rfl, rfl⟩
        go_wp2_with fail
        go_ret
        exact ⟨rfl, hb⟩

theorem frameLong_walk (long b : Int) (w : World) (hl : -9223372036854775808 ≤ long ∧ long ≤ 9223372036854775807) (hb : 0 ≤ b ∧ b ≤ 255) :
    Calls Try.prog 9 #[.int .i64 long, .int .u8 b] w fun e w' => e = .returned (.bool true) ∧ Below w.heap.size w w' := by
  obtain ⟨k, hk, hp⟩ := pick_any long 901 hl (by omega) (by omega)
  exact long_core long b k hk w (Lib.hid hp)
end Go.Proofs.Ytkedelcknkhcnaa
