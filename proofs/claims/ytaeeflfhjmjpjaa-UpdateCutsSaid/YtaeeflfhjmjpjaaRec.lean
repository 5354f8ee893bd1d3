/- Tags and records as values; the three questions. -/
import Derived.Test.YtaeeflfhjmjpjaaProg
import Derived.WalkKit
import Derived.WalkSpells
import Derived.WalkLawsBesides
import Derived.WalkMore
import Derived.ScopeJumps
import Derived.Outline
import Derived.Lib.Hide
import Derived.Laws.StructEq
import Derived.Laws.EntriesVeiled
namespace Go.Proofs.Ytaeeflfhjmjpjaa
open Go.RowKit
set_option linter.unusedVariables false

structure Tg where
  e : Int
  s : Int
deriving DecidableEq
@[reducible] def Tg.v (t : Tg) : Value := .agg #[.int .i64 t.e, .int .i64 t.s]

structure Rc where
  used : Bool
  fence : Int
  done : Tg
  block : ByteArray
  op : Bool
  intent : Tg
  mask : Int
  staged : ByteArray
instance : Inhabited Rc := ⟨⟨false, 0, ⟨0, 0⟩, ⟨#[]⟩, false, ⟨0, 0⟩, 0, ⟨#[]⟩⟩⟩
@[reducible] def Rc.cs (r : Rc) : List Value := [.bool r.used, .int .i64 r.fence, .int .i64 r.done.e, .int .i64 r.done.s, .string r.block, .bool r.op, .int .i64 r.intent.e, .int .i64 r.intent.s, .int .i64 r.mask, .string r.staged]
@[reducible] def Rc.v (r : Rc) : Value := .agg #[.bool r.used, .int .i64 r.fence, .int .i64 r.done.e, .int .i64 r.done.s, .string r.block, .bool r.op, .int .i64 r.intent.e, .int .i64 r.intent.s, .int .i64 r.mask, .string r.staged]

theorem isOpen1_any (r : Rc) (w : World) :
    Calls Try.prog 55 #[r.v] w fun e w' => e = .returned (.bool r.op) ∧ Below w.heap.size w w' := by
  obtain ⟨u, f, ⟨de, ds⟩, b, o, ⟨ie, is⟩, m, s⟩ := r
  simp only [Rc.v]
  go_enter Try.func55, Try.ntmps55
  go_wp2
  go_ret
  exact ⟨rfl, (Below.refl _ _).alloc (Nat.le_refl _) _⟩

theorem eqTag (W : World) (a b c d : Int) :
    (Op.equalIn 10000 34 (.agg #[.int .i64 a, .int .i64 b]) (.agg #[.int .i64 c, .int .i64 d])).run Try.prog W = .ok (a == c && b == d) W := by
  by_cases h1 : a = c <;> by_cases h2 : b = d <;> simp [go_sem, Try.underlying34, h1, h2]

theorem doneIs1_any (r : Rc) (t : Tg) (B : Nat) (w : World) (hB : B < w.heap.size) (h0 : w.cell? ⟨B, 0, none⟩ = some (.int .i64 t.e)) (h1 : w.cell? ⟨B, 1, none⟩ = some (.int .i64 t.s)) :
    Calls Try.prog 56 #[r.v, .pointer (some ⟨B, 0, none⟩)] w fun e w' => e = .returned (.bool (r.done.e == t.e && r.done.s == t.s)) ∧ Below w.heap.size w w' := by
  obtain ⟨u, f, ⟨de, ds⟩, b, o, ⟨ie, is⟩, m, s⟩ := r
  obtain ⟨te, ts⟩ := t
  simp only [Rc.v] at *
  have heq := eqTag
  go_enter Try.func56, Try.ntmps56
  go_wp2
  go_ret
  exact ⟨rfl, (Below.refl _ _).alloc (Nat.le_refl _) _⟩

theorem openIs1_any (r : Rc) (t : Tg) (B : Nat) (w : World) (hB : B < w.heap.size) (h0 : w.cell? ⟨B, 0, none⟩ = some (.int .i64 t.e)) (h1 : w.cell? ⟨B, 1, none⟩ = some (.int .i64 t.s)) :
    Calls Try.prog 57 #[r.v, .pointer (some ⟨B, 0, none⟩)] w fun e w' => e = .returned (.bool (r.op && (r.intent.e == t.e && r.intent.s == t.s))) ∧ Below w.heap.size w w' := by
  obtain ⟨u, f, ⟨de, ds⟩, b, o, ⟨ie, is⟩, m, s⟩ := r
  obtain ⟨te, ts⟩ := t
  simp only [Rc.v] at *
  have heq := eqTag
  go_enter Try.func57, Try.ntmps57
  go_wp2
  all_goals (go_ret; exact ⟨by simp_all, (Below.refl _ _).alloc (Nat.le_refl _) _⟩)

theorem isOpen_any (w : World) :
    Calls Try.prog 42 #[] w fun e w' => e = .returned (.agg #[.func (.func 55) #[] #[]]) ∧ Below w.heap.size w w' := by
  go_enter Try.func42, Try.ntmps42
  go_wp2
  exact bodyPost_ret (v := .agg #[.func (.func 55) #[] #[]]) (by simp [results, Try.results42, go_sem]) rfl ⟨rfl, (Below.refl _ _).alloc (Nat.le_refl _) _⟩

/-- a question about a tag: the tag lies in a block of the call's own -/
def Asked (k : Nat) (t : Tg) (w : World) (e : Ending) (w' : World) : Prop :=
  e = .returned (.agg #[.func (.func k) #[] #[.pointer (some ⟨w.heap.size, 0, none⟩)]]) ∧ Below w.heap.size w w' ∧ w.heap.size < w'.heap.size ∧
    w'.cell? ⟨w.heap.size, 0, none⟩ = some (.int .i64 t.e) ∧ w'.cell? ⟨w.heap.size, 1, none⟩ = some (.int .i64 t.s)

theorem doneIs_any (t : Tg) (w : World) : Calls Try.prog 43 #[t.v] w (Asked 56 t w) := by
  obtain ⟨te, ts⟩ := t
  simp only [Tg.v]
  go_enter Try.func43, Try.ntmps43
  go_wp2
  refine bodyPost_ret (v := .agg #[.func (.func 56) #[] #[.pointer (some ⟨w.heap.size, 0, none⟩)]]) (by simp [results, Try.results43, go_sem]) rfl ⟨rfl, ((Below.refl _ _).alloc (Nat.le_refl _) _).alloc (by simp) _, by simp; omega, ?_, ?_⟩
  · rw [World.cell?_alloc_past _ _ _ (by simp), World.cell?_alloc_at _ _ _ _ rfl]; rfl
  · rw [World.cell?_alloc_past _ _ _ (by simp), World.cell?_alloc_at _ _ _ _ rfl]; rfl

theorem openIs_any (t : Tg) (w : World) : Calls Try.prog 44 #[t.v] w (Asked 57 t w) := by
  obtain ⟨te, ts⟩ := t
  simp only [Tg.v]
  go_enter Try.func44, Try.ntmps44
  go_wp2
  refine bodyPost_ret (v := .agg #[.func (.func 57) #[] #[.pointer (some ⟨w.heap.size, 0, none⟩)]]) (by simp [results, Try.results44, go_sem]) rfl ⟨rfl, ((Below.refl _ _).alloc (Nat.le_refl _) _).alloc (by simp) _, by simp; omega, ?_, ?_⟩
  · rw [World.cell?_alloc_past _ _ _ (by simp), World.cell?_alloc_at _ _ _ _ rfl]; rfl
  · rw [World.cell?_alloc_past _ _ _ (by simp), World.cell?_alloc_at _ _ _ _ rfl]; rfl
end Go.Proofs.Ytaeeflfhjmjpjaa
