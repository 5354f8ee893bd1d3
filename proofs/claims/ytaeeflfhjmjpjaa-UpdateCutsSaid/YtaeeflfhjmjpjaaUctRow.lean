/- UpdateCuts: its walk's end is its row's: for every input the law returns true, and nothing that was there has turned. -/
import Derived.Test.YtaeeflfhjmjpjaaRows
import Derived.Test.YtaeeflfhjmjpjaaShell
import Derived.Test.YtaeeflfhjmjpjaaUct
import Derived.SizedLaws
namespace Go.Proofs.Ytaeeflfhjmjpjaa.UpdateCutsRowOf
open Go.ChangeShapes Go.WideShapes Go.ChangeAt Go.RowKit
open Go.ChangeMaps (open_string shut_string)
set_option linter.unusedVariables false

theorem own : ownKnob Try.prog.godebug = none := by kernel_rfl
theorem laidOut : laidOutB Try.prog = true := by kernel_rfl

set_option maxRecDepth 100000 in
theorem lifted (os : Os) (started : os.Started) (H : Type) (enc : TypeId × Value → H) :
    ReturnsInHanded {} Try.checked os 14 .any (Rows.updateCutsSpec.pre6 enc Try.prog Try.f14 Rows.updateCutsRow.domain false) (Rows.updateCutsSpec.post enc Try.prog Try.f14 false true false false) := by
  refine LawShell.lifted (C := Try.checked) (s := Rows.updateCutsSpec) 3 (by kernel_rfl) own started (by kernel_rfl) Try.func14
    (ChangeSpec.witness6 (enc := enc) (C := Try.checked) false ⟨#[], #[.agg #[.int .i64 0, .int .i64 0, .int .i64 0, .int .i64 0, .slice none 0 0], .slice none 0 0, .int .i64 0], []⟩ 8 (by kernel_rfl) (by kernel_rfl) (by kernel_rfl) (by kernel_rfl))
    rfl (by kernel_rfl) Try.underlying4 (fun ds h => by
      match ds, h with
      | [_, _, _], _ => exact ⟨rfl, rfl, rfl⟩) laidOut (by kernel_rfl) ?_
  intro W base args ds p hval0 hA0 hz0
  have hval : ∀ (j : Nat) t v, Try.f14.params[j]? = some t → args[j]? = some v → Value.okWide Try.prog W .any base t v := hval0
  have hA : DataW.TrodAll enc Try.prog W 0 (fun _ => true) true Try.f14.params.toList args.toList ds p := hA0
  have hz : (DataW.weightsEach Try.prog Try.f14.params.toList ds).all (· ≤ reachBytes) = true := hz0
  rw [Try.params14] at hA hval hz
  obtain ⟨v0, vs0, d0, ds0, p0, q0, hargs, rfl, rfl, h0, r0⟩ := trodAll_cons hA
  obtain ⟨v1, vs1, d1, ds1, p1, q1, rfl, rfl, rfl, h1, r1⟩ := trodAll_cons r0
  obtain ⟨v2, vs2, d2, ds2, p2, q2, rfl, rfl, rfl, h2, r2⟩ := trodAll_cons r1
  obtain ⟨rfl, rfl, rfl⟩ := trodAll_nil r2
  obtain rfl : args = #[v0, v1, v2] := by cases args; simp_all
  obtain ⟨x0, vt0, rfl, rr0, kk0, zz0⟩ := open_rw (hval 0 53 v0 rfl rfl) h0 (SlRd.Small.of_all hz (j := 0) rfl rfl)
  obtain ⟨ll1, rr1, kk1, zz1⟩ := open_nums (hval 1 23 v1 rfl rfl) h1 (SlRd.Small.of_all hz (j := 1) rfl rfl)
  obtain ⟨a2, rfl, rfl, rfl, w2⟩ := open_int Try.underlying3 (hval 2 3 v2 rfl rfl) h2
  have b2 : -9223372036854775808 ≤ a2 ∧ a2 ≤ 9223372036854775807 := LawShell.bounds_i64 w2
  exact updateCuts_walk x0 vt0 ll1 v1 a2 W rr0 kk0 zz0 rr1 kk1 zz1 b2

theorem proved : Rows.UpdateCutsSaid :=
  OpenClaim.holds_of_wide 14 Try.f14 rfl rfl rfl rfl rfl rfl rfl ⟨rfl, rfl, rfl, rfl, rfl⟩ rfl rfl rfl rfl rfl (by kernel_rfl) Try.func14 (by kernel_rfl)
    (of_decide_eq_true (by kernel_rfl)) (by unfold Func.isWrapper; first | (rw [if_pos (by decide +kernel)]; kernel_rfl) | (rw [if_neg (by decide +kernel)]; exact ⟨rfl, rfl⟩))
    (fun os started H enc _ => lifted os started H enc)
#print axioms proved
end Go.Proofs.Ytaeeflfhjmjpjaa.UpdateCutsRowOf
