/- Which states were seen: a map keyed by two numbers. -/
import Derived.Test.YtojgibinokmmeaaFree
import Derived.Maps.OwnOps
import Derived.Maps.OwnSet
import Derived.Maps.Views
import Derived.DeepKeys4
import Derived.KernelRfl
namespace Go.Proofs.Ytojgibinokmmeaa
open Go.RowKit SlRd Lin Go.Maps
set_option linter.unusedVariables false

theorem laidOut : laidOutB Try.prog = true := by kernel_rfl
theorem row53 : (53 : TypeId) < Try.prog.types.size := of_decide_eq_true (by kernel_rfl)
theorem wide53 : (match Try.prog.underlying 53 with | some (.array _ _) | some (.struct _) => true | _ => false) = true := by kernel_rfl
theorem law53 : Keyed Try.prog 53 := Keyed.of_law (deep_law_laid laidOut (m := 2) (by omega) row53 (by kernel_rfl) wide53)
theorem zero3 (w : World) : (zeroValue 3).run Try.prog w = .ok (.int .i64 0) w := by kernel_rfl
theorem cells53 : Try.prog.cellsOf 53 = 2 := by kernel_rfl
theorem cells3 : Try.prog.cellsOf 3 = 1 := by kernel_rfl
theorem keyType53 : Try.prog.keyType 53 = true := by kernel_rfl
theorem types_two : ∃ m, Try.prog.types.size = m + 1 := ⟨Try.prog.types.size - 1, by have : 0 < Try.prog.types.size := of_decide_eq_true (by kernel_rfl); omega⟩

@[reducible] def key (p : Nat) (la : Int) : Value := .agg #[.int .i64 (p : Int), .int .i64 la]
noncomputable def klOf (p : Nat) (la : Int) : Lit := (keyOf Try.prog 53 (key p la)).getD (.bool false)
theorem wf64 {n : Int} (h : -9223372036854775808 ≤ n ∧ n ≤ 9223372036854775807) : (Lit.int .i64 n).wf = true := WalkArith.wf_i64 h
theorem key_ok (p : Nat) (la : Int) (hp : p < 4096) (h1 : -1 ≤ la) (h2 : la < 12) : keyOf Try.prog 53 (key p la) = some (klOf p la) := by
  have hs : (keyOf Try.prog 53 (key p la)).isSome = true := by
    unfold keyOf
    rw [Try.underlying53]
    have hf : Value.formed Try.prog 53 (key p la) = true := by simp [Value.formed, Try.underlying53, cells53]
    simp only [keyType53, hf, Bool.and_self, if_true, Option.isSome_map]
    obtain ⟨m, hm⟩ := types_two
    rw [hm]
    have w1 : (Lit.int .i64 (p : Int)).wf = true := wf64 (by omega)
    have w2 : (Lit.int .i64 la).wf = true := wf64 (by omega)
    simp [Program.keyLits, Try.underlying53, Try.underlying3, cells53, cells3, w1, w2, Value.cells]
  unfold klOf
  obtain ⟨k, hk⟩ := Option.isSome_iff_exists.1 hs
  rw [hk]
  rfl
theorem key_inj {p q : Nat} {la lb : Int} (hp : p < 4096) (h1 : -1 ≤ la) (h2 : la < 12) (hq : q < 4096) (h3 : -1 ≤ lb) (h4 : lb < 12) (h : klOf p la = klOf q lb) : p = q ∧ la = lb := by
  have a := key_ok p la hp h1 h2
  have b := key_ok q lb hq h3 h4
  rw [h] at a
  have := law53.inj a b
  simp [key] at this
  omega

/-- a state that may be -/
def Ok (s : Nat × Int) : Prop := s.1 < 4096 ∧ -1 ≤ s.2 ∧ s.2 < 12
/-- block M is a map of at most n entries: just the states of T are there -/
def SeenIs (W : World) (M n : Nat) (T : List (Nat × Int)) : Prop :=
  ∃ D : DataW Unit, W.ownsMap Try.prog 53 (plainElem Try.prog 3) M n D ∧ ∀ s, Ok s → D.atKey (klOf s.1 s.2) (.lit (.int .i64 0)) = .lit (.int .i64 (if s ∈ T then 1 else 0))
section
variable {W W' : World} {M n : Nat} {T : List (Nat × Int)}
theorem SeenIs.lt (h : SeenIs W M n T) : M < W.heap.size := by obtain ⟨D, h, _⟩ := h; exact h.lt
theorem SeenIs.below (h : SeenIs W M n T) (hb : Below W.heap.size W W') : SeenIs W' M n T := by
  obtain ⟨D, h1, h2⟩ := h
  exact ⟨D, h1.kept (row := none) ⟨hb.os, hb.tape, hb.output, hb.size, fun i hi _ => hb.block i hi⟩ (by simp), h2⟩
theorem SeenIs.made (w : World) : SeenIs (w.alloc (.map #[] 0)) w.heap.size 0 [] := by
  refine ⟨_, World.ownsMap_made _ _ _ _, fun s hs => ?_⟩
  have : ¬ (s ∈ ([] : List (Nat × Int))) := by simp
  rw [if_neg this]
  rfl
theorem SeenIs.look (h : SeenIs W M n T) (p : Nat) (la : Int) (hs : Ok (p, la)) : (Instr.lookup 47 (.map (some M)) (key p la) false).run Try.prog W = .ok (.int .i64 (if (p, la) ∈ T then 1 else 0)) W := by
  obtain ⟨D, h1, h2⟩ := h
  obtain ⟨c, hr, hat, _⟩ := h1.lookup_int law53 Try.underlying47 Try.underlying3 (zero3 W) (key_ok p la hs.1 hs.2.1 hs.2.2)
  rw [h2 (p, la) hs] at hat
  simp only [DataW.lit.injEq, Lit.int.injEq] at hat
  rw [hr, ← hat.2]
theorem SeenIs.put (h : SeenIs W M n T) (p : Nat) (la : Int) (hs : Ok (p, la)) (hn : n < 1000000000000000) :
    ∃ w', (Instr.mapUpdate 47 (.map (some M)) (key p la) (.int .i64 1)).run Try.prog W = .ok () w' ∧ SeenIs w' M (n + 1) ((p, la) :: T) ∧ W.grownBy w' (some M) := by
  obtain ⟨D, h1, h2⟩ := h
  have hk := key_ok p la hs.1 hs.2.1 hs.2.2
  obtain ⟨w', hr, ho, hg⟩ := h1.update law53 Try.underlying47 (by unfold maxLen; omega) hk (plainElem_int Try.underlying3 (wf64 (n := 1) (by omega)))
  refine ⟨w', hr, ⟨_, ho, fun s hs' => ?_⟩, hg⟩
  by_cases e : s = (p, la)
  · subst e
    rw [atKey_put_same (h1.tidy law53).isMap (law53.key hk), if_pos (by simp)]
  · have hne : klOf s.1 s.2 ≠ klOf p la := fun h => by
      have := key_inj hs'.1 hs'.2.1 hs'.2.2 hs.1 hs.2.1 hs.2.2 h
      exact e (Prod.ext this.1 this.2)
    rw [atKey_put_other hne, h2 s hs']
    simp [e]
end
end Go.Proofs.Ytojgibinokmmeaa
