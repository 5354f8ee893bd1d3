/- FrameTells: as the document says: the walks of the reference and of the law. -/
import Derived.Test.YtkedelcknkhcnaaRowB
import Derived.Test.YtkedelcknkhcnaaXor
namespace Go.Proofs.Ytkedelcknkhcnaa
open Go.RowKit
set_option linter.unusedVariables false

theorem refLay_long (p : ByteArray) (hp : 800 < p.size) (hp2 : p.size ≤ maxLen) (w : World) :
    Calls Try.prog 12 #[.string p] w fun e w' => e = .returned (.tuple #[.string ⟨#[]⟩, .int .i64 40]) ∧ w = w' := by
  unfold maxLen at hp2
  go_enter Try.func12, Try.ntmps12
  go_wp2
  go_ret2
  exact ⟨rfl, rfl⟩

theorem conv4s (W : World) (x y z u : Int) : (convert 27 9 (.slice (some ⟨W.heap.size, 0, none⟩) 4 4)).run Try.prog (W.alloc (.cells #[.int .u8 x, .int .u8 y, .int .u8 z, .int .u8 u] 5)) =
    .ok (.string (strOfNums [x, y, z, u])) (W.alloc (.cells #[.int .u8 x, .int .u8 y, .int .u8 z, .int .u8 u] 5)) := by
  refine run_convert_bytes_arg _ 27 5 Try.underlying27 Try.underlying5 _ 0 4 4 [x, y, z, u] rfl ?_ 9 Try.underlying9
  intro i hi
  rw [Nat.zero_add, World.cell?_alloc_mark]
  match i, hi with
  | 0, _ => rfl
  | 1, _ => rfl
  | 2, _ => rfl
  | 3, _ => rfl

theorem refLay_core (p : ByteArray) (X : Int) (hX0 : 0 ≤ X) (hX1 : X < 16777216) (hp : p.size ≤ 800) (w : World)
    (c1 : Hid (∀ w, Calls Try.prog 18 #[.string (bodyStr p)] w fun e w' => e = .returned (.int .i64 X) ∧ w = w')) :
    Calls Try.prog 12 #[.string p] w fun e w' => e = .returned (.tuple #[.string (bodyStr p ++ ownStr X), .int .i64 0]) ∧ Below w.heap.size w w' := by
  have hcv := conv4s
  have hcv3 : ∀ (W : World) (C : Obj) (x y z : Int), (convert 27 9 (.slice (some ⟨W.heap.size + 1, 0, none⟩) 3 3)).run Try.prog ((W.alloc C).alloc (.cells #[.int .u8 x, .int .u8 y, .int .u8 z] 5)) =
    .ok (.string (strOfNums [x, y, z])) ((W.alloc C).alloc (.cells #[.int .u8 x, .int .u8 y, .int .u8 z] 5)) := fun W C x y z => by
    have h := conv3 (W.alloc C) x y z
    rw [show (W.alloc C).heap.size = W.heap.size + 1 from by simp] at h
    exact h
  have hz1 : ∀ a b c d : Int, (strOfNums [a, b, c, d]).size = 4 := fun a b c d => by rw [strOfNums_size]; rfl
  have hz3 : ∀ a b c : Int, (strOfNums [a, b, c]).size = 3 := fun a b c => by rw [strOfNums_size]; rfl
  go_enter Try.func12, Try.ntmps12
  go_wp2_with fail
  refine (c1.out _).mono ?_; rintro e w' ⟨rfl, rfl⟩
  go_wp2_with fail
  go_ret2
  exact ⟨rfl, ((Below.refl _ _).alloc (Nat.le_refl _) _).alloc (by simp) _⟩

theorem refLay_any (p : ByteArray) (hp : p.size ≤ 800) (w : World) :
    Calls Try.prog 12 #[.string p] w fun e w' => e = .returned (.tuple #[.string (frameStr p), .int .i64 0]) ∧ Below w.heap.size w w' := by
  have h := (sumOf (bodyStr p)).isLt
  exact refLay_core p ((sumOf (bodyStr p)).toNat : Int) (by omega) (by omega) hp w (Lib.hid (refSum_any (bodyStr p) (by rw [body_size]; unfold maxLen; omega)))

theorem refOpen_short (s : ByteArray) (hs : s.size < 7 ∨ 807 < s.size) (hs2 : s.size ≤ maxLen) (w : World) :
    Calls Try.prog 14 #[.string s] w fun e w' => e = .returned (.tuple #[.string ⟨#[]⟩, .int .i64 40]) ∧ w = w' := by
  unfold maxLen at hs2
  rcases hs with h | h
  · go_enter Try.func14, Try.ntmps14
    go_wp2
    go_ret2
    exact ⟨rfl, rfl⟩
  · go_enter Try.func14, Try.ntmps14
    go_wp2
    go_ret2
    exact ⟨rfl, rfl⟩

theorem refOpen_core (s p F : ByteArray) (q : Bool) (hs : 7 ≤ s.size) (hs2 : s.size ≤ 807) (hp : Hid (s.extract 4 (s.size - 3) = p)) (hq : (F.toList == s.toList) = q) (w : World)
    (c1 : Hid (∀ w, Calls Try.prog 12 #[.string p] w fun e w' => e = .returned (.tuple #[.string F, .int .i64 0]) ∧ Below w.heap.size w w')) :
    Calls Try.prog 14 #[.string s] w fun e w' => e = .returned (openVal s q) ∧ Below w.heap.size w w' := by
  have hp' := hp.out
  cases q
  · go_enter Try.func14, Try.ntmps14
    go_wp2_with fail
    refine (c1.out _).mono ?_; rintro e w1 ⟨rfl, hb⟩
    go_wp2_with fail
    go_ret2
    exact ⟨rfl, hb⟩
  · go_enter Try.func14, Try.ntmps14
    go_wp2_with fail
    refine (c1.out _).mono ?_; rintro e w1 ⟨rfl, hb⟩
    go_wp2_with fail
    go_ret2
    exact ⟨by rw [← hp.out]; rfl, hb⟩

theorem refOpen_any (s : ByteArray) (hs : s.size ≤ maxLen) (w : World) :
    Calls Try.prog 14 #[.string s] w fun e w' => e = .returned (openVal s (openOK s)) ∧ Below w.heap.size w w' := by
  by_cases h : 7 ≤ s.size ∧ s.size ≤ 807
  · have hz : (s.extract 4 (s.size - 3)).size ≤ 800 := by rw [ByteArray.size_extract]; omega
    refine refOpen_core s _ _ (openOK s) h.1 h.2 rfl ?_ w (Lib.hid (refLay_any _ hz))
    rw [Bool.eq_iff_iff, beq_iff_eq, LL_toList, LL_toList]
    constructor
    · intro e
      rw [← LL_inj e]
      exact frame_opens _ hz
    · intro e
      rw [← (open_frame s e).1]
  · have e : openOK s = false := by
      unfold openOK
      by_cases h1 : 7 ≤ s.size
      · rw [decide_eq_false (p := s.size ≤ 807) (by omega)]; simp
      · rw [decide_eq_false h1]; rfl
    rw [e]
    refine (refOpen_short s (by omega) hs w).mono ?_
    rintro e w' ⟨rfl, rfl⟩
    exact ⟨rfl, Below.refl _ _⟩

theorem tells_core (p s A C : ByteArray) (B D : Int) (w : World)
    (c1 : Hid (∀ w, Calls Try.prog 11 #[.string p] w fun e w' => e = .returned (.tuple #[.string A, .int .i64 B]) ∧ Below w.heap.size w w'))
    (c2 : Hid (∀ w, Calls Try.prog 12 #[.string p] w fun e w' => e = .returned (.tuple #[.string A, .int .i64 B]) ∧ Below w.heap.size w w'))
    (c3 : Hid (∀ w, Calls Try.prog 13 #[.string s] w fun e w' => e = .returned (.tuple #[.string C, .int .i64 D]) ∧ Below w.heap.size w w'))
    (c4 : Hid (∀ w, Calls Try.prog 14 #[.string s] w fun e w' => e = .returned (.tuple #[.string C, .int .i64 D]) ∧ Below w.heap.size w w')) :
    Calls Try.prog 3 #[.string p, .string s] w fun e w' => e = .returned (.bool true) ∧ Below w.heap.size w w' := by
  go_enter Try.func3, Try.ntmps3
  go_wp2_with fail
  refine (awake_any _).mono ?_; rintro e w0 ⟨rfl, hb0⟩
  go_wp2_with fail
  refine (c1.out _).mono ?_; rintro e w1 ⟨rfl, hb1⟩
  go_wp2_with fail
  refine (c2.out _).mono ?_; rintro e w1 ⟨rfl, hb2⟩
  go_wp2_with fail
  refine (c3.out _).mono ?_; rintro e w1 ⟨rfl, hb3⟩
  go_wp2_with fail
  refine (c4.out _).mono ?_; rintro e w1 ⟨rfl, hb4⟩
  go_wp2
  go_ret
  exact ⟨rfl, below_then (below_then (below_then (below_then hb0 hb1) hb2) hb3) hb4⟩

theorem frameTells_walk (p s : ByteArray) (w : World) (hp : p.size ≤ 140737488351232) (hs : s.size ≤ 140737488351232) :
    Calls Try.prog 3 #[.string p, .string s] w fun e w' => e = .returned (.bool true) ∧ Below w.heap.size w w' := by
  have hs' : s.size ≤ maxLen := by unfold maxLen; omega
  have h3 : ∃ (C : ByteArray) (D : Int), openVal s (openOK s) = .tuple #[.string C, .int .i64 D] := by
    cases openOK s
    · exact ⟨_, _, rfl⟩
    · exact ⟨_, _, rfl⟩
  obtain ⟨C, D, h3⟩ := h3
  have o1 := open_any s hs'
  have o2 := refOpen_any s hs'
  rw [h3] at o1 o2
  by_cases h : p.size ≤ 800
  · exact tells_core p s _ C 0 D w (Lib.hid (lay_any p h)) (Lib.hid (refLay_any p h)) (Lib.hid o1) (Lib.hid o2)
  · have l1 := lay_long p (by omega) (by unfold maxLen; omega)
    have l2 := refLay_long p (by omega) (by unfold maxLen; omega)
    exact tells_core p s ⟨#[]⟩ C 40 D w (Lib.hid fun w => (l1 w).mono (by rintro e w' ⟨rfl, rfl⟩; exact ⟨rfl, Below.refl _ _⟩)) (Lib.hid fun w => (l2 w).mono (by rintro e w' ⟨rfl, rfl⟩; exact ⟨rfl, Below.refl _ _⟩)) (Lib.hid o1) (Lib.hid o2)
end Go.Proofs.Ytkedelcknkhcnaa
