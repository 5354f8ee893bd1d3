/- The walks of frame.head, frame.tail, frame.Lay. -/
import Derived.Test.YtkedelcknkhcnaaGo
import Derived.Test.YtkedelcknkhcnaaBRow
import Derived.RegionTactic
import Derived.BigRegion
import Derived.BigQuiet
import Derived.Deep.QuietTactic
import Derived.Deep.RegionWith
import Derived.Deep.DeepCutAuto
namespace Go.Proofs.Ytkedelcknkhcnaa
open Go.RowKit
set_option linter.unusedVariables false

theorem head_any (n : Int) (h0 : 0 ≤ n) (h1 : n ≤ 800) (w : World) :
    Calls Try.prog 16 #[.int .i64 n] w fun e w' => e = .returned (.agg #[.int .u8 87, .int .u8 76, .int .u8 (n % 256), .int .u8 (n / 256)]) ∧ Below w.heap.size w w' := by
  go_enter Try.func16, Try.ntmps16
  go_wp2
  exact bodyPost_ret (v := .agg #[.int .u8 87, .int .u8 76, .int .u8 (n % 256), .int .u8 (n / 256)]) (by simp [results, Try.results16, go_sem]) rfl ⟨rfl, (Below.refl _ _).alloc (Nat.le_refl _) _⟩

/-- three bytes, made a text -/
theorem conv3 (W : World) (x y z : Int) : (convert 27 9 (.slice (some ⟨W.heap.size, 0, none⟩) 3 3)).run Try.prog (W.alloc (.cells #[.int .u8 x, .int .u8 y, .int .u8 z] 5)) =
    .ok (.string (strOfNums [x, y, z])) (W.alloc (.cells #[.int .u8 x, .int .u8 y, .int .u8 z] 5)) := by
  refine run_convert_bytes_arg _ 27 5 Try.underlying27 Try.underlying5 _ 0 3 3 [x, y, z] rfl ?_ 9 Try.underlying9
  intro i hi
  rw [Nat.zero_add, World.cell?_alloc_mark]
  match i, hi with
  | 0, _ => rfl
  | 1, _ => rfl
  | 2, _ => rfl
/-- four bytes of an array, made a text -/
theorem conv4 (W : World) (x y z u : Int) : (convert 27 9 (.slice (some ⟨W.heap.size, 0, none⟩) 4 4)).run Try.prog (W.alloc (.cells #[.int .u8 x, .int .u8 y, .int .u8 z, .int .u8 u] 34)) =
    .ok (.string (strOfNums [x, y, z, u])) (W.alloc (.cells #[.int .u8 x, .int .u8 y, .int .u8 z, .int .u8 u] 34)) := by
  refine run_convert_bytes_arg _ 27 5 Try.underlying27 Try.underlying5 _ 0 4 4 [x, y, z, u] rfl ?_ 9 Try.underlying9
  intro i hi
  rw [Nat.zero_add, World.cell?_alloc_mark]
  match i, hi with
  | 0, _ => rfl
  | 1, _ => rfl
  | 2, _ => rfl
  | 3, _ => rfl

/-- the three bytes of a sum, as a text -/
def ownStr (X : Int) : ByteArray := strOfNums [X / 65536, X / 256 % 256, X % 256]
def sumOf (s : ByteArray) : BitVec 24 := CrcP.go 11994318#24 (byts s)
def tailStr (s : ByteArray) : ByteArray := ownStr ((sumOf s).toNat : Int)
def headStr (n : Int) : ByteArray := strOfNums [87, 76, n % 256, n / 256]
def bodyStr (p : ByteArray) : ByteArray := headStr (p.size : Int) ++ p
def frameStr (p : ByteArray) : ByteArray := bodyStr p ++ tailStr (bodyStr p)

theorem tail_any (s : ByteArray) (hs : s.size ≤ maxLen) (w : World) :
    Calls Try.prog 17 #[.string s] w fun e w' => e = .returned (.string (tailStr s)) ∧ Below w.heap.size w w' := by
  have c1 : ∀ w, Calls Try.prog 19 #[.string s] w fun e w' => e = .returned (.int .i64 ((sumOf s).toNat : Int)) ∧ w = w' := fun w => sum_any s hs w
  have hX : Small ((sumOf s).toNat : Int) := ⟨_, rfl⟩
  unfold tailStr
  generalize ((sumOf s).toNat : Int) = X at c1 hX ⊢
  obtain ⟨h0, h1⟩ := hX.bd
  have C1 := Lib.hid c1
  clear c1
  have hcv := conv3
  go_enter Try.func17, Try.ntmps17
  go_wp2_with (go_at_call 19; refine (C1.out _).mono ?_; rintro e w' ⟨rfl, rfl⟩)
  go_ret
  exact ⟨rfl, (Below.refl _ _).alloc (Nat.le_refl _) _⟩

theorem lay_long (p : ByteArray) (hp : 800 < p.size) (hp2 : p.size ≤ maxLen) (w : World) :
    Calls Try.prog 11 #[.string p] w fun e w' => e = .returned (.tuple #[.string ⟨#[]⟩, .int .i64 40]) ∧ w = w' := by
  unfold maxLen at hp2
  go_enter Try.func11, Try.ntmps11
  go_wp2
  go_ret2
  exact ⟨rfl, rfl⟩

theorem head_size (n : Int) : (headStr n).size = 4 := by unfold headStr; rw [strOfNums_size]; rfl
theorem own_size (n : Int) : (ownStr n).size = 3 := by unfold ownStr; rw [strOfNums_size]; rfl
theorem body_size (p : ByteArray) : (bodyStr p).size = 4 + p.size := by unfold bodyStr; rw [ByteArray.size_append, head_size]
theorem frame_size (p : ByteArray) : (frameStr p).size = p.size + 7 := by unfold frameStr tailStr; rw [ByteArray.size_append, body_size, own_size]; omega

theorem lay_any (p : ByteArray) (hp : p.size ≤ 800) (w : World) :
    Calls Try.prog 11 #[.string p] w fun e w' => e = .returned (.tuple #[.string (frameStr p), .int .i64 0]) ∧ Below w.heap.size w w' := by
  have hcv := conv4
  have hz1 : ∀ a b c d : Int, (strOfNums [a, b, c, d]).size = 4 := fun a b c d => by rw [strOfNums_size]; rfl
  go_enter Try.func11, Try.ntmps11
  go_wp2_with (go_at_call 16; refine (head_any _ (by omega) (by omega) _).mono ?_; rintro e w' ⟨rfl, hb1⟩)
  refine (tail_any (bodyStr p) (by rw [body_size]; unfold maxLen; omega) _).mono ?_; rintro e w2 ⟨rfl, hb2⟩
  have hz2 : (tailStr (bodyStr p)).size = 3 := own_size _
  go_wp2
  go_ret2
  exact ⟨rfl, (hb1.alloc hb1.size _).trans (hb2.mono (by have := hb1.size; simp; omega))⟩
end Go.Proofs.Ytkedelcknkhcnaa
