/- The walk of law16.columnsOf: six records with nothing open. -/
import Derived.Test.YtaeeflfhjmjpjaaApplyC
import Derived.Test.YtaeeflfhjmjpjaaUasks
namespace Go.Proofs.Ytaeeflfhjmjpjaa
open Go.RowKit SlRd
set_option linter.unusedVariables false

def s16 : ByteArray := ⟨#[48, 49, 50, 51, 52, 53, 54, 55, 56, 57, 97, 98, 99, 100, 101, 102]⟩
theorem s16_size : s16.size = 16 := rfl
theorem ap26 : Ap Try.prog 26 37 10 96 := Ap.of Try.underlying26 info37 rfl (by decide)
theorem rc_cells (r : Rc) : ∀ u ∈ r.cs, u.oneCell' = true := by
  intro u hu
  simp only [Rc.cs, List.mem_cons, List.not_mem_nil, or_false] at hu
  rcases hu with rfl | rfl | rfl | rfl | rfl | rfl | rfl | rfl | rfl | rfl <;> rfl

set_option maxRecDepth 100000 in
set_option maxHeartbeats 1600000 in
theorem columnsOf_any (E : Int) (w : World) : Calls Try.prog 35 #[.int .i64 E] w fun e w' => ∃ v, e = .returned v ∧ w'.ownsRow w.heap.size 37 10 v 6 ((List.replicate 6 (baseR E s16)).flatMap Rc.cs) ∧ Below w.heap.size w w' := by
  go_enter Try.func35, Try.ntmps35
  go_wp2_with fail
  go_loopw [3, 4] (fun v i wr => ∃ k : Nat, k ≤ 6 ∧ i = .int .i64 k ∧ wr.ownsRow w.heap.size 37 10 v k ((List.replicate k (baseR E s16)).flatMap Rc.cs) ∧ Below w.heap.size w wr) (fun _ i _ => 6 - (intOf i).toNat)
  case atStart => exact ⟨0, by omega, rfl, World.ownsRow_nil _ _ _ _, Below.refl _ _⟩
  case round =>
    obtain ⟨k, hk, rfl, hown, hb⟩ := hrel
    by_cases hlt : k < 6
    · have HO := Lib.hid hown
      have HB := Lib.hid hb
      have h63 : k + 1 ≤ maxLen := by unfold maxLen; omega
      clear hown hb
      go_wp2_with (at_builtin; refine wpList_app ap26 (by rfl) _ _ (by rfl) w (below_al HB.out _) _ k ((List.replicate k (baseR E s16)).flatMap Rc.cs) (by rfl) (HO.out.alloc _) _ 1 1 (baseR E s16).cs (by rfl) (Rd.list wr (baseR E s16).cs 37 1 10 rfl) (rc_cells _) h63 (by omega) ?_; intro v2 w2 o2 g2 b2)
      have HO2 := Lib.hid o2
      have HB2 := Lib.hid b2
      clear o2 g2 b2
      go_wp2_with fail
      go_roundw
      case rel =>
        refine ⟨k + 1, by omega, by go_num, ?_, HB2.out⟩
        rw [List.replicate_succ', List.flatMap_append]
        simpa using HO2.out
      case measure => simp [intOf]; omega
    · obtain rfl : k = 6 := by omega
      go_wp2_with fail
      go_ret
      exact ⟨_, rfl, hown, hb⟩
end Go.Proofs.Ytaeeflfhjmjpjaa
