/- UpdateEnds: its walk's end is its row's: for every input the law returns true, and nothing that was there has turned. -/
import Derived.Test.YtaeeflfhjmjpjaaRows
import Derived.Test.YtaeeflfhjmjpjaaShell
import Derived.Test.YtaeeflfhjmjpjaaUenW
import Derived.SizedLaws
namespace Go.Proofs.Ytaeeflfhjmjpjaa.UpdateEndsRowOf
open Go.ChangeShapes Go.WideShapes Go.ChangeAt Go.RowKit
open Go.ChangeMaps (open_string shut_string)
set_option linter.unusedVariables false

theorem own : ownKnob Try.prog.godebug = none := by kernel_rfl
theorem laidOut : laidOutB Try.prog = true := by kernel_rfl

set_option maxRecDepth 100000 in
theorem lifted (os : Os) (started : os.Started) (H : Type) (enc : TypeId × Value → H) :
    ReturnsInHanded {} Try.checked os 11 .any (Rows.updateEndsSpec.pre6 enc Try.prog Try.f11 Rows.updateEndsRow.domain false) (Rows.updateEndsSpec.post enc Try.prog Try.f11 false true false false) := by
  refine LawShell.lifted (C := Try.checked) (s := Rows.updateEndsSpec) 2 (by kernel_rfl) own started (by kernel_rfl) Try.func11
    (ChangeSpec.witness6 (enc := enc) (C := Try.checked) false ⟨#[], #[.agg #[.int .i64 0, .int .i64 0, .int .i64 0, .int .i64 0, .slice none 0 0], .slice none 0 0], []⟩ 8 (by kernel_rfl) (by kernel_rfl) (by kernel_rfl) (by kernel_rfl))
    rfl (by kernel_rfl) Try.underlying4 (fun ds h => by
      match ds, h with
      | [_, _], _ => exact ⟨rfl, rfl, rfl⟩) laidOut (by kernel_rfl) ?_
  intro W base args ds p hval0 hA0 hz0
  have hval : ∀ (j : Nat) t v, Try.f11.params[j]? = some t → args[j]? = some v → Value.okWide Try.prog W .any base t v := hval0
  have hA : DataW.TrodAll enc Try.prog W 0 (fun _ => true) true Try.f11.params.toList args.toList ds p := hA0
  have hz : (DataW.weightsEach Try.prog Try.f11.params.toList ds).all (· ≤ reachBytes) = true := hz0
  rw [Try.params11] at hA hval hz
  obtain ⟨v0, vs0, d0, ds0, p0, q0, hargs, rfl, rfl, h0, r0⟩ := trodAll_cons hA
  obtain ⟨v1, vs1, d1, ds1, p1, q1, rfl, rfl, rfl, h1, r1⟩ := trodAll_cons r0
  obtain ⟨rfl, rfl, rfl⟩ := trodAll_nil r1
  obtain rfl : args = #[v0, v1] := by cases args; simp_all
  obtain ⟨x0, vt0, rfl, rr0, kk0, zz0⟩ := open_rw (hval 0 53 v0 rfl rfl) h0 (SlRd.Small.of_all hz (j := 0) rfl rfl)
  obtain ⟨ll1, rr1, kk1, zz1⟩ := open_nums (hval 1 23 v1 rfl rfl) h1 (SlRd.Small.of_all hz (j := 1) rfl rfl)
  exact updateEnds_walk x0 vt0 ll1 v1 W rr0 kk0 zz0 rr1 kk1 zz1

theorem proved : Rows.UpdateEndsSaid :=
  OpenClaim.holds_of_wide 11 Try.f11 rfl rfl rfl rfl rfl rfl rfl ⟨rfl, rfl, rfl, rfl, rfl⟩ rfl rfl rfl rfl rfl (by kernel_rfl) Try.func11 (by kernel_rfl)
    (of_decide_eq_true (by kernel_rfl)) (by unfold Func.isWrapper; first | (rw [if_pos (by decide +kernel)]; kernel_rfl) | (rw [if_neg (by decide +kernel)]; exact ⟨rfl, rfl⟩))
    (fun os started H enc _ => lifted os started H enc)
#print axioms proved
end Go.Proofs.Ytaeeflfhjmjpjaa.UpdateEndsRowOf
