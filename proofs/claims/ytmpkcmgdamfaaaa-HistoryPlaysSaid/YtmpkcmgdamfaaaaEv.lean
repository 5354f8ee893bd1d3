/- Events and ops as values; '==' of events; which events count. -/
import Derived.Test.YtmpkcmgdamfaaaaProg
import Derived.Test.YtmpkcmgdamfaaaaTouch
import Derived.WalkKit
import Derived.WalkSpells
import Derived.WalkLawsBesides
import Derived.WalkMore
import Derived.ScopeJumps
import Derived.Outline
import Derived.Lib.Hide
import Derived.Laws.StructEq
import Derived.Laws.EntriesVeiled
import Derived.Deep.QuietTactic
import Derived.BigQuiet
import Derived.Deep.DeepCutAuto
import Derived.Deep.CutRange
import Derived.Deep.CutBlock
import Derived.StillTailTactics
import Derived.Deep.RegionHeld3
import Derived.Deep.RegionWith
import Derived.Deep.MidRow
import Derived.RegionTactic
import Derived.Deep.AppendLies
import Derived.Maps.AppendAt
namespace Go.Proofs.Ytmpkcmgdamfaaaa
open Go.RowKit SlRd
set_option linter.unusedVariables false

structure Op where
  kind : Int
  at_ : Int
  data : ByteArray
deriving DecidableEq
@[reducible] def Op.cs (o : Op) : List Value := [.int .i64 o.kind, .int .i64 o.at_, .string o.data]
@[reducible] def Op.v (o : Op) : Value := .agg #[.int .i64 o.kind, .int .i64 o.at_, .string o.data]
structure Ev where
  pilot : Int
  begin_ : Int
  end_ : Int
  op : Op
  err : Int
  data : ByteArray
deriving DecidableEq
instance : Inhabited Op := ⟨⟨0, 0, ⟨#[]⟩⟩⟩
instance : Inhabited Ev := ⟨⟨0, 0, 0, ⟨0, 0, ⟨#[]⟩⟩, 0, ⟨#[]⟩⟩⟩
@[reducible] def Ev.cs (x : Ev) : List Value := [.int .i64 x.pilot, .int .i64 x.begin_, .int .i64 x.end_, .int .i64 x.op.kind, .int .i64 x.op.at_, .string x.op.data, .int .i64 x.err, .string x.data]
@[reducible] def Ev.v (x : Ev) : Value := .agg #[.int .i64 x.pilot, .int .i64 x.begin_, .int .i64 x.end_, .int .i64 x.op.kind, .int .i64 x.op.at_, .string x.op.data, .int .i64 x.err, .string x.data]

theorem toList_inj {s t : ByteArray} (h : s.toList = t.toList) : s = t := by
  rw [ByteArray.toList_eq, ByteArray.toList_eq] at h
  obtain ⟨⟨a⟩⟩ := s
  obtain ⟨⟨b⟩⟩ := t
  simpa using h
theorem eqOp (W : World) (a1 a2 b1 b2 : Int) (s1 s2 : ByteArray) :
    (Go.Op.equalIn 10000 31 (.agg #[.int .i64 a1, .int .i64 a2, .string s1]) (.agg #[.int .i64 b1, .int .i64 b2, .string s2])).run Try.prog W = .ok (decide (a1 = b1 ∧ a2 = b2 ∧ s1 = s2)) W := by
  by_cases h1 : a1 = b1
  · by_cases h2 : a2 = b2
    · by_cases h3 : s1 = s2
      · simp [go_sem, Try.underlying31, h1, h2, h3]
      · have h3' : ¬ s1.toList = s2.toList := fun e => h3 (toList_inj e)
        simp [go_sem, Try.underlying31, h1, h2, h3, h3']
    · simp [go_sem, Try.underlying31, h1, h2]
  · simp [go_sem, Try.underlying31, h1]
theorem eqEv (W : World) (p q : Ev) : (Go.Op.equalIn 10000 46 p.v q.v).run Try.prog W = .ok (decide (p = q)) W := by
  obtain ⟨a1, a2, a3, ⟨a4, a5, a6⟩, a7, a8⟩ := p
  obtain ⟨b1, b2, b3, ⟨b4, b5, b6⟩, b7, b8⟩ := q
  by_cases h1 : a1 = b1
  · by_cases h2 : a2 = b2
    · by_cases h3 : a3 = b3
      · by_cases h4 : a4 = b4 ∧ a5 = b5 ∧ a6 = b6
        · by_cases h7 : a7 = b7
          · by_cases h8 : a8 = b8
            · simp [go_sem, Try.underlying46, h1, h2, h3, h4, h7, h8]
            · have h8' : ¬ a8.toList = b8.toList := fun e => h8 (toList_inj e)
              simp [go_sem, Try.underlying46, h1, h2, h3, h4, h7, h8, h8']
          · simp [go_sem, Try.underlying46, h1, h2, h3, h4, h7]
        · simp [go_sem, Try.underlying46, h1, h2, h3, h4]
          try (intro e1 e2 e3; exact absurd ⟨e1, e2, toList_inj e3⟩ h4)
      · simp [go_sem, Try.underlying46, h1, h2, h3]
    · simp [go_sem, Try.underlying46, h1, h2]
  · simp [go_sem, Try.underlying46, h1]

/-- does an event count for its block? -/
def cnt (x : Ev) : Bool := if x.op.kind = 1 then (x.end_ != 0 && x.err == 0) else x.op.kind == 2 && (x.end_ == 0 || (x.err == 0 || x.err == 171))
set_option maxHeartbeats 800000 in
theorem counts_any (x : Ev) (w : World) : Calls Try.prog 22 #[x.v] w fun e w' => e = .returned (.bool (cnt x)) ∧ Below w.heap.size w w' := by
  obtain ⟨p, b, en, ⟨k, at_, od⟩, er, da⟩ := x
  obtain ⟨r, hr⟩ : ∃ r, r = cnt ⟨p, b, en, ⟨k, at_, od⟩, er, da⟩ := ⟨_, rfl⟩
  have HR := Lib.hid hr
  rw [← hr]
  clear hr
  go_enter Try.func22, Try.ntmps22
  by_cases h1 : k = 1
  · subst h1
    cases h2 : (en != 0)
    all_goals
      go_wp2_with fail
      go_ret
      refine ⟨?_, (Below.refl _ _).alloc (Nat.le_refl _) _⟩
      rw [HR.out]
      simp [cnt, h2]
  · by_cases h2 : k = 2
    · subst h2
      cases h3 : (en != 0)
      · go_wp2_with fail
        go_ret
        refine ⟨?_, (Below.refl _ _).alloc (Nat.le_refl _) _⟩
        rw [HR.out]
        simp [cnt] at h3 ⊢
        simp [h3]
      · cases h4 : (er == 0)
        all_goals
          go_wp2_with fail
          go_ret
          refine ⟨?_, (Below.refl _ _).alloc (Nat.le_refl _) _⟩
          rw [HR.out]
          have h3' : (en == 0) = false := by simpa using h3
          simp [cnt, h3', h4]
    · have e1 : (k == 1) = false := by simpa using h1
      have e2 : (k == 2) = false := by simpa using h2
      go_wp2_with fail
      go_ret
      refine ⟨?_, (Below.refl _ _).alloc (Nat.le_refl _) _⟩
      rw [HR.out]
      simp [cnt, h1, h2]
end Go.Proofs.Ytmpkcmgdamfaaaa
