/- The walk of frame.Open. -/
import Derived.Test.YtkedelcknkhcnaaEqA
import Derived.Laws.Cover3
namespace Go.Proofs.Ytkedelcknkhcnaa
open Go.RowKit
set_option linter.unusedVariables false

theorem open_short (s : ByteArray) (hs : s.size < 7 ∨ 807 < s.size) (hs2 : s.size ≤ maxLen) (w : World) :
    Calls Try.prog 13 #[.string s] w fun e w' => e = .returned (.tuple #[.string ⟨#[]⟩, .int .i64 40]) ∧ w = w' := by
  unfold maxLen at hs2
  rcases hs with h | h
  · go_enter Try.func13, Try.ntmps13
    go_wp2
    go_ret2
    exact ⟨rfl, rfl⟩
  · go_enter Try.func13, Try.ntmps13
    go_wp2
    go_ret2
    exact ⟨rfl, rfl⟩

theorem bcell {W w1 : World} (hb : Below W.heap.size W w1) : (∀ b o, b < W.heap.size → w1.cell? ⟨b, o, none⟩ = W.cell? ⟨b, o, none⟩) ∧ (∀ b o, b < W.heap.size → w1.frozen? ⟨b, o, none⟩ = W.frozen? ⟨b, o, none⟩) :=
  ⟨fun b o h => hb.cell (p := ⟨b, o, none⟩) h, fun b o h => hb.frozen (p := ⟨b, o, none⟩) h⟩

theorem below_far {w W w1 : World} (hb : Below W.heap.size W w1) (hz : w.heap.size ≤ W.heap.size) (h : Below w.heap.size w W) : Below w.heap.size w w1 := h.trans (hb.mono hz)

theorem row_at (t : ByteArray) (c j : Nat) (hj : j < t.size) : (bytesRow t c)[j]? = some (.int .u8 (BRow.byteAt t j)) := by
  have hj' : j < t.data.size := hj
  rw [bytesRow_at t c j hj']
  unfold BRow.byteAt
  rw [List.getD_eq_getElem?_getD, Array.getElem?_toList, Array.getElem?_eq_getElem hj']
  rfl

/-- what Open makes of a text of 7 to 807 bytes: is its head right, is its tail? -/
def headOK (s : ByteArray) : Bool := ((87 : Int) == BRow.byteAt (s.extract 0 4) 0 && ((76 : Int) == BRow.byteAt (s.extract 0 4) 1 && (((s.size : Int) - 4 - 3) % 256 == BRow.byteAt (s.extract 0 4) 2 && ((s.size : Int) - 4 - 3) / 256 == BRow.byteAt (s.extract 0 4) 3)))
def tailOK (s : ByteArray) : Bool := (tailStr (s.extract 0 (s.size - 3))).toList == (s.extract (s.size - 3) s.size).toList

def openVal (s : ByteArray) (q : Bool) : Value := match q with
  | true => .tuple #[.string (s.extract 4 (s.size - 3)), .int .i64 0]
  | false => .tuple #[.string ⟨#[]⟩, .int .i64 40]

set_option maxHeartbeats 1600000 in
theorem open_core (s t : ByteArray) (q1 q2 : Bool) (x0 x1 x2 x3 : Int) (hs : 7 ≤ s.size) (hs2 : s.size ≤ 807) (w : World) (ht : s.extract 0 4 = t) (htz : t.size = 4)
    (hq1 : Hid (((87 : Int) == x0 && ((76 : Int) == x1 && (((s.size : Int) - 4 - 3) % 256 == x2 && ((s.size : Int) - 4 - 3) / 256 == x3))) = q1)) (hq2 : Hid (tailOK s = q2))
    (r0 : ∀ c, (bytesRow t c)[0]? = some (.int .u8 x0)) (r1 : ∀ c, (bytesRow t c)[1]? = some (.int .u8 x1)) (r2 : ∀ c, (bytesRow t c)[2]? = some (.int .u8 x2)) (r3 : ∀ c, (bytesRow t c)[3]? = some (.int .u8 x3)) :
    Calls Try.prog 13 #[.string s] w fun e w' => e = .returned (openVal s (q1 && q2)) ∧ Below w.heap.size w w' := by
  have E1 : Hid ((4 + ((s.size : Int) - 4 - 3)).toNat = s.size - 3) := by show _ = _; omega
  have E2 : Hid (4 + (s.size - 4 - 3) = s.size - 3) := by show _ = _; omega
  go_enter Try.func13, Try.ntmps13
  go_upto_region 4 with fail
  go_cut [23] (fun s23 wx => s23 = .bool (!q1) ∧ Below w.heap.size w wx)
  case first =>
    have hcv := fun W => run_bytes_of_string (P := Try.prog) W 9 27 5 t Try.underlying9 Try.underlying27 Try.underlying5
    have hat : ∀ (W : World) (a : Option Addr) (c : Nat), (Instr.arrayAt 34 (.slice a 4 c)).run Try.prog W = .ok (.pointer a) W := fun W a c => run_arrayAt W 34 5 4 a 4 c Try.underlying34 (by omega)
    have heq := eq4
    have hca := fun (W : World) (C : Array Value) (n c : Nat) (j : Nat) => World.cell?_alloc_mark W C 5 (n, c) j
    go_region_with (go_at_call 16; refine (head_any _ (by omega) (by omega) _).mono ?_; rintro e w' ⟨rfl, hb⟩; obtain ⟨hbc, hbf⟩ := bcell hb)
    all_goals (go_wp2_with fail; go_meet; refine ⟨congrArg Value.bool (by rw [← hq1.out]; simp only [Bool.not_and]), ?_⟩; clear hbc hbf; repeat' (first | exact Below.refl _ _ | exact Nat.le_refl _ | apply Below.drew | (refine Below.alloc ?_ ?_ _) | (refine below_far hb ?_ ?_) | (simp; done) | (have := hb.size; simp at this ⊢; omega)))
  case rest =>
    obtain ⟨rfl, hb⟩ := hcut
    have Hb := Lib.hid hb
    clear hb r0 r1 r2 r3 ht htz
    cases q1
    · simp only [Bool.not_false]
      go_wp2_with fail
      go_ret2
      exact ⟨rfl, Hb.out⟩
    · simp only [Bool.not_true]
      go_upto_region 7 with fail
      go_cut [33] (fun s33 wx => s33 = .bool (!q2) ∧ Below w.heap.size w wx)
      case first =>
        have hw := Hb.out
        clear Hb
        go_region_with (go_at_call 17; refine (tail_any _ (by rw [ByteArray.size_extract]; unfold maxLen; omega) _).mono ?_; rintro e w' ⟨rfl, hb⟩)
        all_goals (go_wp2_with fail; go_meet; refine ⟨?_, hw.drew.trans (hb.mono hw.size)⟩; rw [← hq2.out]; simp only [E1.out, E2.out]; rfl)
      case rest =>
        obtain ⟨rfl, hb⟩ := hcut
        have Hb := Lib.hid hb
        clear hb
        cases q2
        · simp only [Bool.not_false]
          go_wp2_with fail
          go_ret2
          exact ⟨rfl, Hb.out⟩
        · simp only [Bool.not_true]
          go_wp2_with fail
          go_ret2
          refine ⟨?_, Hb.out⟩
          show Ending.returned (.tuple #[.string (s.extract 4 (4 + (s.size - 4 - 3))), _]) = _
          rw [E2.out]
          rfl
end Go.Proofs.Ytkedelcknkhcnaa
