/- An update beside all else: what its calls leave. -/
import Derived.Test.YtaeeflfhjmjpjaaUfit2
namespace Go.Proofs.Ytaeeflfhjmjpjaa
open Go.RowKit SlRd
set_option linter.unusedVariables false

/-- an update in memory, made since w0 -/
structure UW (w0 W : World) (B : Nat) (v : Value) (u : Up) : Prop where
  o : UO W B v u
  b : w0.heap.size ≤ B
  v : ∀ i, v.ownBlock = some i → w0.heap.size ≤ i
  w : Below w0.heap.size w0 W
section
variable {w0 W W' : World} {B : Nat} {v : Value} {u u' : Up}
theorem UW.below (h : UW w0 W B v u) (hb : Below W.heap.size W W') : UW w0 W' B v u := ⟨h.o.below hb, h.b, h.v, below_then h.w hb⟩
theorem UW.touch (h : UW w0 W B v u) (ht : SlRd.Touch (US B v) W W') (ho : UO W' B v u') : UW w0 W' B v u' :=
  ⟨ho, h.b, h.v, ht.below h.w (fun i hi => by rcases hi with rfl | hi; exact h.b; exact h.v i hi) (Nat.le_refl _)⟩
theorem UO.apart (h : UO W B v u) {base n size : Nat} {e : TypeId} {x : Value} {xs : List Value} (ho : W.ownsRow base e size x n xs) (h1 : e ≠ 86) (h2 : e ≠ 88) : ∀ i, x.ownBlock = some i → ¬ US B v i := by
  intro i hi hs
  rcases hs with rfl | hv
  · exact own_blk_ne ho h.h h1 hi
  · rcases ho.2 with ⟨rfl, _⟩ | ⟨g, cap, cur, rfl, _, hh, _⟩
    · cases hi
    · cases hi
      exact own_blk_ne h.own (t := e) (cs := cur) hh (Ne.symm h2) hv
theorem UW.keep (h : UW w0 W B v u) (ht : SlRd.Touch (US B v) W W') {base n size : Nat} {e : TypeId} {x : Value} {xs : List Value} (ho : W.ownsRow base e size x n xs) (h1 : e ≠ 86) (h2 : e ≠ 88) : W'.ownsRow base e size x n xs :=
  ht.owns ho (h.o.apart ho h1 h2)
/-- what was there at w0 is there still -/
theorem UW.rd (h : UW w0 W B v u) {size n : Nat} {x : Value} {xs : List Value} (hr : Rd w0 size x n xs) : Rd W size x n xs := hr.below h.w
theorem asksW (h : UW w0 W B v u) (hl : u.parts.length ≤ 1000) : Calls Try.prog 30 #[.pointer (some ⟨B, 0, none⟩)] W fun e w' => ∃ v1 v2, e = .returned (.tuple #[v1, v2]) ∧ w'.ownsRow W.heap.size 3 1 v1 (toAsk u).length (colsOf (toAsk u)) ∧
    w'.ownsRow W.heap.size 43 9 v2 (toAsk u).length (((toAsk u).map fun p => askU u p (stU u)).flatMap Ak.cs) ∧ UW w0 w' B v (begun u) ∧ SlRd.Touch (US B v) W w' := by
  refine (asksU_any h.o hl).mono ?_
  rintro e w' ⟨v1, v2, rfl, h1, h2, h3, h4⟩
  exact ⟨v1, v2, rfl, h1, h2, h.touch h4 h3, h4⟩
theorem saidW (h : UW w0 W B v u) (hl : u.parts.length ≤ 1000) (c k s : Int) : Calls Try.prog 34 #[.pointer (some ⟨B, 0, none⟩), .int .i64 c, .int .i64 k, .int .i64 s] W fun e w' => e = .returned (.tuple #[]) ∧ UW w0 w' B v (saidU u c k s) ∧ SlRd.Touch (US B v) W w' := by
  refine (said_any h.o hl c k s).mono ?_
  rintro e w' ⟨rfl, h3, h4⟩
  exact ⟨rfl, h.touch h4 h3, h4⟩
theorem stateW (h : UW w0 W B v u) (hl : u.parts.length ≤ 1000) : Calls Try.prog 31 #[.pointer (some ⟨B, 0, none⟩)] W fun e w' => e = .returned (.int .i64 (stU u)) ∧ UW w0 w' B v u ∧ Below W.heap.size W w' := by
  refine (state_any h.o hl).mono ?_
  rintro e w' ⟨rfl, hb⟩
  exact ⟨rfl, h.below hb, hb⟩
theorem beganW (h : UW w0 W B v u) : Calls Try.prog 37 #[.pointer (some ⟨B, 0, none⟩)] W fun e w' => e = .returned (.bool u.began) ∧ W = w' := began_any h.o
theorem newW {stripe e s : Int} {cols : List Int} {bl : List ByteArray} (h : Fits stripe e s cols bl) (vc vb : Value) (w : World) (hc : Rd w 1 vc cols.length (cols.map (Value.int .i64))) (hb : Rd w 1 vb bl.length (bl.map Value.string)) (w0 : World) (hw : Below w0.heap.size w0 w) :
    Calls Try.prog 29 #[.int .i64 stripe, .agg #[.int .i64 e, .int .i64 s], vc, vb] w fun r w' => ∃ B v, r = .returned (.tuple #[.pointer (some ⟨B, 0, none⟩), .int .i64 0]) ∧ UW w0 w' B v (newU stripe e s cols bl) ∧ Below w.heap.size w w' ∧ w.heap.size ≤ B ∧ (∀ i, v.ownBlock = some i → w.heap.size ≤ i) := by
  refine (new_ok h vc vb w hc hb).mono ?_
  rintro r w' ⟨B, v, rfl, h1, h2, h3, h4⟩
  have := hw.size
  exact ⟨B, v, rfl, ⟨h1, by omega, fun i hi => by have := h4 i hi; omega, below_then hw h2⟩, h2, h3, h4⟩
end
theorem map_len (u : Up) (c k s : Int) : (saidU u c k s).parts.length = u.parts.length := by
  unfold saidU
  split
  · rfl
  · simp
theorem begun_parts (u : Up) : (begun u).parts = u.parts := rfl
theorem parts_len {cols : List Int} {bl : List ByteArray} {stripe e s : Int} (h : Fits stripe e s cols bl) : (newU stripe e s cols bl).parts.length = cols.length := by
  show (partsOf cols bl).length = _
  unfold partsOf
  rw [List.length_map, List.length_zip, h.n, Nat.min_self]
end Go.Proofs.Ytaeeflfhjmjpjaa
