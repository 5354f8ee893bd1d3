/- A row of bytes that the call itself has made: what it holds, what a store does to it, what it is as a text. No program in sight. -/
import Derived.WalkKit
import Derived.Laws.BytesArg
import Derived.Laws.IdiomStrings
import Derived.Deep.OwnRows
namespace BRow
open Go Go.RowKit

def Row (W : World) (B n : Nat) (f : Nat → Int) : Prop := ∀ j, j < n → W.cell? ⟨B, j, none⟩ = some (.int .u8 (f j)) ∧ W.frozen? ⟨B, j, none⟩ = false
def byteAt (s : ByteArray) (j : Nat) : Int := ((s.data.toList.getD j 0).toNat : Int)

theorem byteAt_lt (s : ByteArray) (j : Nat) : 0 ≤ byteAt s j ∧ byteAt s j ≤ 255 := by
  unfold byteAt
  have := (s.data.toList.getD j 0).toNat_lt
  omega

theorem made {P : Program} (w : World) (src dst e : TypeId) (s : ByteArray) (hs : P.underlying src = some .string) (hd : P.underlying dst = some (.slice e)) (he : P.underlying e = some (.int .u8)) :
    ∃ W cap, (convert src dst (.string s)).run P w = .ok (.slice (some ⟨w.heap.size, 0, none⟩) s.size cap) W ∧ Row W w.heap.size s.size (byteAt s) ∧ Below w.heap.size w W ∧ w.heap.size < W.heap.size := by
  refine ⟨_, _, run_bytes_of_string w src dst e s hs hd he, ?_, (Below.refl _ _).drew.alloc (Nat.le_refl _) _, by rw [World.size_alloc]; exact Nat.lt_succ_self _⟩
  intro j hj
  have hj' : j < s.data.size := hj
  constructor
  · show ((w.drew.alloc _).cell? ⟨w.drew.heap.size, j, none⟩) = _
    rw [World.cell?_alloc_mark, bytesRow_at s _ j hj']
    unfold byteAt
    rw [List.getD_eq_getElem?_getD, Array.getElem?_toList, Array.getElem?_eq_getElem hj']
    rfl
  · show ((w.drew.alloc _).frozen? ⟨w.drew.heap.size, j, none⟩) = _
    rw [World.frozen?_alloc_mark]
    have hlen : s.data.size ≤ (bytesRow s (grownCap w s.size 0 e)).size := by
      unfold bytesRow
      rw [Array.size_append, Array.size_map]
      omega
    rw [decide_eq_false (by omega)]
    rfl

theorem Row.set {W : World} {B n : Nat} {f : Nat → Int} (h : Row W B n f) (k : Nat) (hk : k < n) (v : Int) : Row (W.setCell ⟨B, k, none⟩ (.int .u8 v)) B n (fun j => if j = k then v else f j) := by
  intro j hj
  obtain ⟨h1, h2⟩ := h j hj
  refine ⟨?_, by rw [World.frozen?_setCell]; exact h2⟩
  by_cases e : j = k
  · subst e
    simp only [if_true]
    exact World.cell?_setCell_same _ _ _ h1
  · simp only [e, if_false]
    rw [World.cell?_setCell_other]
    · exact h1
    · intro he
      injection he with _ he _
      exact e he.symm

theorem Row.step {W : World} {B n : Nat} {f : Nat → Int} (h : Row W B n f) (k : Nat) (hk : k < n) (v : Int) (g : Nat → Int) (hg : ∀ j, j < n → (if j = k then v else f j) = g j) : Row (W.setCell ⟨B, k, none⟩ (.int .u8 v)) B n g := by
  intro j hj
  have := h.set k hk v j hj
  rw [← hg j hj]
  exact this

theorem byteAt_get (s : ByteArray) (k : Nat) (h : k < s.size) : (s[k].toNat : Int) = byteAt s k := by
  have h' : k < s.data.toList.length := by rw [Array.length_toList]; exact h
  unfold byteAt
  rw [List.getD_eq_getElem?_getD, List.getElem?_eq_getElem h']
  rfl

theorem Row.below {W W' : World} {B n : Nat} {f : Nat → Int} (h : Row W B n f) (hb : Below W.heap.size W W') (hB : B < W.heap.size) : Row W' B n f := by
  intro j hj
  rw [hb.cell (p := ⟨B, j, none⟩) hB, hb.frozen (p := ⟨B, j, none⟩) hB]
  exact h j hj
theorem size_setCell (W : World) (p : Addr) (v : Value) : (W.setCell p v).heap.size = W.heap.size := by
  unfold World.setCell
  simp

theorem Row.drew {W : World} {B n : Nat} {f : Nat → Int} (h : Row W B n f) : Row W.drew B n f := h

theorem Row.back {P : Program} {W : World} {B n : Nat} {f : Nat → Int} (h : Row W B n f) (src e dst cap : TypeId) (hs : P.underlying src = some (.slice e)) (he : P.underlying e = some (.int .u8)) (hd : P.underlying dst = some .string) :
    (convert src dst (.slice (some ⟨B, 0, none⟩) n cap)).run P W = .ok (.string (strOfNums ((List.range n).map f))) W := by
  refine run_convert_bytes_arg W src e hs he B 0 n cap _ (by simp) ?_ dst hd
  intro i hi
  rw [Nat.zero_add, (h i hi).1]
  simp [hi]

/-- 'make([]byte, n)' -/
theorem zeros {P : Program} (w : World) (t e : TypeId) (n : Nat) (ht : P.underlying t = some (.slice e)) (hinfo : (P.info? e).map (fun i => (i.zero, i.size, i.bytes)) = some (some (.int .u8 0), 1, 1)) (hn : n ≤ 281474976710656) :
    ∃ W, (Instr.makeSlice t (.int .i64 (n : Int)) (.int .i64 (n : Int))).run P w = .ok (.slice (some ⟨w.heap.size, 0, none⟩) n n) W ∧ Row W w.heap.size n (fun _ => 0) ∧ Below w.heap.size w W ∧ w.heap.size < W.heap.size := by
  refine ⟨_, run_make_row' t e (.int .u8 0) 1 ht hinfo rfl .i64 .i64 n (by omega) (by omega) w, ?_, (Below.refl _ _).alloc (Nat.le_refl _) _, by rw [World.size_alloc]; exact Nat.lt_succ_self _⟩
  intro j hj
  have h := World.rowIs_made w (.int .u8 0) n e
  exact ⟨h.cell hj, h.frozen j⟩

/-- such a text's bytes -/
def byts (s : ByteArray) : List (BitVec 8) := s.data.toList.map UInt8.toBitVec
theorem byts_str (n : Nat) (f : Nat → Int) : byts (strOfNums ((List.range n).map f)) = (List.range n).map fun j => BitVec.ofNat 8 (f j).toNat := by
  unfold byts
  rw [strOfNums_data, List.map_map, List.map_map]
  rfl
theorem byts_at (s : ByteArray) : byts s = (List.range s.size).map fun j => BitVec.ofNat 8 (byteAt s j).toNat := by
  apply List.ext_getElem?
  intro i
  unfold byts
  rw [List.getElem?_map, List.getElem?_map]
  by_cases h : i < s.size
  · have h' : i < s.data.toList.length := by rw [Array.length_toList]; exact h
    rw [List.getElem?_eq_getElem h', List.getElem?_range h]
    simp only [Option.map_some]
    congr 1
    unfold byteAt
    rw [List.getD_eq_getElem?_getD, List.getElem?_eq_getElem h']
    simp only [Option.getD_some, Int.toNat_natCast]
    apply BitVec.eq_of_toNat_eq
    rw [BitVec.toNat_ofNat]
    have := (s.data.toList[i]).toNat_lt
    rw [Nat.mod_eq_of_lt this]
    rfl
  · have h' : s.data.toList.length ≤ i := by
      have e : s.data.toList.length = s.size := by rw [Array.length_toList]; rfl
      omega
    rw [List.getElem?_eq_none h', List.getElem?_eq_none (by simp; omega)]
    rfl

theorem str_size (n : Nat) (f : Nat → Int) : (strOfNums ((List.range n).map f)).size = n := by rw [strOfNums_size]; simp

theorem ofInt_u8 (a : Nat) (ha : a < 256) : (BitVec.ofInt 8 (a : Int)).toNat = a := by
  rw [BitVec.ofInt_natCast, BitVec.toNat_ofNat]; exact Nat.mod_eq_of_lt (by omega)
/-- the exclusive or of two bytes -/
theorem xor_u8 (a b : Int) (ha : 0 ≤ a ∧ a ≤ 255) (hb : 0 ≤ b ∧ b ≤ 255) :
    BitVec.ofNat 8 (bits .xor .u8 a b).toNat = BitVec.ofNat 8 a.toNat ^^^ BitVec.ofNat 8 b.toNat ∧ 0 ≤ bits .xor .u8 a b ∧ bits .xor .u8 a b ≤ 255 := by
  obtain ⟨x, rfl⟩ := Int.eq_ofNat_of_zero_le ha.1
  obtain ⟨y, rfl⟩ := Int.eq_ofNat_of_zero_le hb.1
  have hx : x < 256 := by omega
  have hy : y < 256 := by omega
  have hz : x ^^^ y < 2 ^ 8 := Nat.xor_lt_two_pow hx hy
  have e : bits .xor .u8 (x : Int) (y : Int) = ((x ^^^ y : Nat) : Int) := by
    show IntKind.u8.wrap ((BitVec.ofInt 8 (x : Int) ^^^ BitVec.ofInt 8 (y : Int)).toNat : Int) = _
    rw [BitVec.toNat_xor, ofInt_u8 x hx, ofInt_u8 y hy]
    have h0 : (0 : Int) ≤ ((x ^^^ y : Nat) : Int) := by omega
    have h1 : ((x ^^^ y : Nat) : Int) ≤ 255 := by omega
    exact IntWalk.u8_in _ ⟨by omega, by omega⟩
  rw [e]
  refine ⟨?_, by omega, by omega⟩
  simp only [Int.toNat_natCast]
  apply BitVec.eq_of_toNat_eq
  rw [BitVec.toNat_xor, BitVec.toNat_ofNat, BitVec.toNat_ofNat, BitVec.toNat_ofNat, Nat.mod_eq_of_lt hz, Nat.mod_eq_of_lt hx, Nat.mod_eq_of_lt hy]
end BRow
