/- Events as values; which count, which are sure; pick. -/
import Derived.Test.YtojgibinokmmeaaProg
import Derived.Test.YtojgibinokmmeaaTouch
import Derived.Test.YtojgibinokmmeaaLinQ
import Derived.WalkKit
import Derived.WalkSpells
import Derived.WalkLawsBesides
import Derived.WalkMore
import Derived.ScopeJumps
import Derived.Outline
import Derived.Lib.Hide
import Derived.Laws.StructEq
import Derived.Laws.EntriesVeiled
import Derived.Deep.QuietTactic
import Derived.BigQuiet
import Derived.Deep.DeepCutAuto
import Derived.Deep.CutRange
import Derived.Deep.CutBlock
import Derived.StillTailTactics
import Derived.Deep.RegionHeld3
import Derived.Deep.RegionWith
import Derived.Deep.MidRow
import Derived.RegionTactic
import Derived.Deep.AppendLies
import Derived.Maps.AppendAt
import Derived.Laws.OwnMore
namespace Go.Proofs.Ytojgibinokmmeaa
open Go.RowKit SlRd Lin
set_option linter.unusedVariables false

@[reducible] def Ecs (x : Lin.Ev) : List Value := [.int .i64 x.pilot, .int .i64 x.begin_, .int .i64 x.end_, .int .i64 x.op.kind, .int .i64 x.op.at_, .string x.op.data, .int .i64 x.err, .string x.data]
@[reducible] def Ev_ (x : Lin.Ev) : Value := .agg #[.int .i64 x.pilot, .int .i64 x.begin_, .int .i64 x.end_, .int .i64 x.op.kind, .int .i64 x.op.at_, .string x.op.data, .int .i64 x.err, .string x.data]
theorem below_drewN {B : Nat} {a w : World} (h : Below B a w) (n : Nat) : Below B a (w.drewN n) := ⟨h.os, h.tape, h.output, h.size, h.block⟩
theorem below_then {w w1 w2 : World} (h1 : Below w.heap.size w w1) (h2 : Below w1.heap.size w1 w2) : Below w.heap.size w w2 := h1.trans (h2.mono h1.size)
theorem below_al {w w' : World} (h : Below w.heap.size w w') (o : Obj) : Below w.heap.size w (w'.alloc o) := h.alloc h.size o

set_option maxHeartbeats 800000 in
theorem sure_any (x : Lin.Ev) (w : World) : Calls Try.prog 18 #[Ev_ x] w fun e w' => e = .returned (.bool (sure x)) ∧ Below w.heap.size w w' := by
  obtain ⟨p, b, en, ⟨k, at_, od⟩, er, da⟩ := x
  obtain ⟨r, hr⟩ : ∃ r, r = sure ⟨p, b, en, ⟨k, at_, od⟩, er, da⟩ := ⟨_, rfl⟩
  have HR := Lib.hid hr
  rw [← hr]
  clear hr
  go_enter Try.func18, Try.ntmps18
  cases h2 : (en != 0)
  all_goals
    go_wp2_with fail
    go_ret
    refine ⟨?_, (Below.refl _ _).alloc (Nat.le_refl _) _⟩
    rw [HR.out]
    simp [sure, h2]

set_option maxHeartbeats 800000 in
theorem counts_any (x : Lin.Ev) (w : World) : Calls Try.prog 17 #[Ev_ x] w fun e w' => e = .returned (.bool (cnt x)) ∧ Below w.heap.size w w' := by
  have HS := Lib.hid (fun W => sure_any x W)
  obtain ⟨p, b, en, ⟨k, at_, od⟩, er, da⟩ := x
  obtain ⟨r, hr⟩ : ∃ r, r = cnt ⟨p, b, en, ⟨k, at_, od⟩, er, da⟩ := ⟨_, rfl⟩
  have HR := Lib.hid hr
  rw [← hr]
  clear hr
  go_enter Try.func17, Try.ntmps17
  by_cases h1 : k = 1
  · subst h1
    go_wp2_with fail
    refine (HS.out _).mono ?_; rintro e w2 ⟨rfl, hb2⟩
    have hb := below_then ((Below.refl w.heap.size w).alloc (Nat.le_refl _) (.cells #[.int .i64 p, .int .i64 b, .int .i64 en, .int .i64 1, .int .i64 at_, .string od, .int .i64 er, .string da] 31)) hb2
    go_wp2_with fail
    go_ret
    refine ⟨?_, hb⟩
    rw [HR.out]
    simp [cnt]
  · have e1 : (k == 1) = false := by simpa using h1
    by_cases h2 : k = 2
    · subst h2
      cases h3 : (en == 0)
      · cases h4 : (er == 0)
        all_goals
          go_wp2_with fail
          go_ret
          refine ⟨?_, (Below.refl _ _).alloc (Nat.le_refl _) _⟩
          rw [HR.out]
          simp [cnt, h3, h4]
      · go_wp2_with fail
        go_ret
        refine ⟨?_, (Below.refl _ _).alloc (Nat.le_refl _) _⟩
        rw [HR.out]
        simp [cnt, h3]
    · have e2 : (k == 2) = false := by simpa using h2
      go_wp2_with fail
      go_ret
      refine ⟨?_, (Below.refl _ _).alloc (Nat.le_refl _) _⟩
      rw [HR.out]
      simp [cnt, h1, e2]

theorem pick_pos (c n : Int) (hc : 0 ≤ c) (hc2 : c ≤ 9223372036854775807) (hn : 0 < n) (hn2 : n ≤ 9223372036854775807) (w : World) :
    Calls Try.prog 12 #[.int .i64 c, .int .i64 n] w fun e w' => e = .returned (.int .i64 (c % n)) ∧ w = w' := by
  go_enter Try.func12, Try.ntmps12
  go_wp2
  go_ret
  exact ⟨rfl, rfl⟩
theorem pick_neg (c n : Int) (hc : c < 0) (hc2 : -9223372036854775808 ≤ c) (hn : 0 < n) (hn2 : n ≤ 9223372036854775807) (w : World) :
    Calls Try.prog 12 #[.int .i64 c, .int .i64 n] w fun e w' => e = .returned (.int .i64 ((-(c + 1)) % n)) ∧ w = w' := by
  go_enter Try.func12, Try.ntmps12
  have e : -(c + 1).tmod n = (-(c + 1)) % n := by
    rw [← Int.neg_tmod, Int.tmod_eq_emod_of_nonneg (by omega)]
  have E := Lib.hid e
  clear e
  go_wp2
  go_ret
  exact ⟨by rw [← E.out]; rfl, rfl⟩
/-- which of n things a raw number speaks of -/
def pk (c n : Int) : Int := if 0 ≤ c then c % n else (-(c + 1)) % n
theorem pk_bd (c n : Int) (hn : 0 < n) : 0 ≤ pk c n ∧ pk c n < n := by
  unfold pk
  split
  · exact ⟨Int.emod_nonneg _ (by omega), Int.emod_lt_of_pos _ hn⟩
  · exact ⟨Int.emod_nonneg _ (by omega), Int.emod_lt_of_pos _ hn⟩
theorem pick_any (c n : Int) (hc : -9223372036854775808 ≤ c ∧ c ≤ 9223372036854775807) (hn : 0 < n) (hn2 : n ≤ 9223372036854775807) (w : World) :
    Calls Try.prog 12 #[.int .i64 c, .int .i64 n] w fun e w' => e = .returned (.int .i64 (pk c n)) ∧ w = w' := by
  unfold pk
  split
  · exact pick_pos c n (by assumption) hc.2 hn hn2 w
  · exact pick_neg c n (by omega) hc.1 hn hn2 w
end Go.Proofs.Ytojgibinokmmeaa
