/- copy(dst, s), s a text of whatever length, dst a row of bytes. -/
import Derived.Lib.LazyBuf
import Derived.Test.YtaeeflfhjmjpjaaBRow
set_option linter.unusedVariables false
namespace BRow
open Go Go.RowKit

theorem setCells_size (b : Nat) : ∀ (vs : List Value) (o : Nat) (w : World), (w.setCells b o vs).heap.size = w.heap.size
  | [], _, _ => rfl
  | v :: r, o, w => by rw [World.setCells, setCells_size b r (o + 1) _, size_setCell]
theorem setCells_below {B : Nat} {a : World} (b : Nat) (hb : B ≤ b) : ∀ (vs : List Value) (o : Nat) (w : World), Below B a w → Below B a (w.setCells b o vs)
  | [], _, _, h => h
  | v :: r, o, w, h => setCells_below b hb r (o + 1) _ (h.setCell (p := ⟨b, o, none⟩) hb v)
theorem setCells_frozen (b : Nat) (p : Addr) : ∀ (vs : List Value) (o : Nat) (w : World), (w.setCells b o vs).frozen? p = w.frozen? p
  | [], _, _ => rfl
  | v :: r, o, w => by rw [World.setCells, setCells_frozen b p r (o + 1) _, World.frozen?_setCell]

theorem copyStr {P : Program} (W : World) {B n cap : Nat} {f : Nat → Int} (h : Row W B n f) (dT sT ty elem : TypeId) (s : ByteArray) (hu : P.underlying dT = some (.slice elem)) (hz : ∀ w, (Go.sizeOf elem).run P w = .ok 1 w) :
    ∃ W', (Builtin.copy_ #[dT, sT] ty #[.slice (some ⟨B, 0, none⟩) n cap, .string s]).run P W = .ok (goInt ((min s.size n : Nat) : Int)) W' ∧ Row W' B n (fun j => if j < s.size then byteAt s j else f j) ∧ W'.heap.size = W.heap.size ∧
      ∀ (X : World) (C : Nat), C ≤ B → Below C X W → Below C X W' := by
  have hl0 : (s.data.toList.map fun x => Value.int .u8 (x.toNat : Int)).length = s.size := by rw [List.length_map, ← Lib.size_eq]
  have hl : ((s.data.toList.map fun x => Value.int .u8 (x.toNat : Int)).take (min s.size n)).length = min s.size n := by rw [List.length_take, hl0]; omega
  have hst := run_storeCells_cells (P := P) B 0 ((s.data.toList.map fun x => Value.int .u8 (x.toNat : Int)).take (min s.size n)) 0 W (by
      rw [hl]; intro j hj; rw [Nat.add_zero, Nat.zero_add, (h j (by omega)).1]; rfl) (by rw [hl]; intro j hj; rw [Nat.add_zero, Nat.zero_add]; exact (h j (by omega)).2) (by
    intro v hv
    obtain ⟨x, _, rfl⟩ := List.mem_map.1 (List.mem_of_mem_take hv)
    rfl)
  refine ⟨W.setCells B 0 ((s.data.toList.map fun x => Value.int .u8 (x.toNat : Int)).take (min s.size n)), ?_, ?_, setCells_size _ _ _ _, fun X C hC hb => setCells_below B hC _ _ _ hb⟩
  · have hm : Nat.min s.size n = min s.size n := rfl
    simp [Builtin.copy_, run_underlying hu, Builtin.lenOf, Builtin.firstCells, hz]
    rw [hm, hst]
    simp [Result.andThen]
  · intro j hj
    refine ⟨?_, by rw [setCells_frozen]; exact (h j hj).2⟩
    by_cases hjs : j < s.size
    · have := World.cell?_setCells_in B ((s.data.toList.map fun x => Value.int .u8 (x.toNat : Int)).take (min s.size n)) 0 W (by rw [hl]; intro j hj; rw [Nat.zero_add, (h j (by omega)).1]; rfl) j (by rw [hl]; omega)
      rw [Nat.zero_add] at this
      rw [this]
      show some _ = some (Value.int .u8 (if j < s.size then byteAt s j else f j))
      rw [if_pos hjs, List.getElem_take, List.getElem_map, ← byteAt_get s j hjs]
      rfl
    · rw [World.cell?_setCells_out _ _ _ _ _ (by intro _ _; right; rw [hl]; show 0 + min s.size n ≤ j; omega)]
      show _ = some (Value.int .u8 (if j < s.size then byteAt s j else f j))
      rw [if_neg hjs]
      exact (h j hj).1
end BRow
