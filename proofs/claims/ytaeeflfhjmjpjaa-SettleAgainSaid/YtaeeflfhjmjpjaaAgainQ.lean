/- What SettleAgain knows of its columns; settled at their asks. -/
import Derived.Test.YtaeeflfhjmjpjaaAgainP
namespace Go.Proofs.Ytaeeflfhjmjpjaa
open Go.RowKit SlRd
set_option linter.unusedVariables false

def zeroSeq (x : Cl) : Cl := ⟨x.known, x.has, 0, x.block⟩
theorem one_cols (raw : List Cl) (mask : Int) : One ((six (raw.map zeroSeq)).map cKnown) ((six (raw.map zeroSeq)).map (cRec [mask])) (1 + pk mask 63) := by
  have hE := eok_cols (raw.map zeroSeq) [mask]
  refine ⟨hE.len, hE.six, hE.rok, ?_⟩
  intro r hr ho
  obtain ⟨hd, _⟩ := hE.opn r hr ho
  obtain ⟨x, hx, rfl⟩ := List.mem_map.1 hr
  have hx' : x ∈ raw.map zeroSeq := List.mem_of_mem_take hx
  obtain ⟨z, _, rfl⟩ := List.mem_map.1 hx'
  have hn : cNum (zeroSeq z) = 1 := by show 1 + pk 0 3 = 1; decide
  have hM : cMask [mask] 1 = 1 + pk mask 63 := by unfold cMask; simp
  refine ⟨by rw [hd]; decide, ?_⟩
  unfold cRec at ho ⊢
  split
  · exact ⟨by show Tg.mk 3 (cNum (zeroSeq z)) = _; rw [hn], by show cMask [mask] (cNum (zeroSeq z)) = _; rw [hn, hM]⟩
  · rename_i h1
    rw [if_neg h1] at ho
    split at ho <;> cases ho
theorem settled_one {w : World} {kn : List Bool} {l : List Rc} {M : Int} (h : One kn l M) (many : Nat) (vl vc vq : Value) (hl : Rd w 10 vl l.length (l.flatMap Rc.cs)) (hc : Rd w 1 vc (asked kn l).length (NV (asked kn l)))
    (hq : Rd w 9 vq (asked kn l).length (((asked kn l).map (askOf kn l 1 5)).flatMap Ak.cs)) :
    Calls Try.prog 18 #[vl, vc, vq, .int .i64 many] w fun e w' => ∃ v, e = .returned v ∧ Rd w' 10 v l.length ((partS kn l (min (asked kn l).length many)).flatMap Rc.cs) ∧ Below w.heap.size w w' := by
  by_cases h0 : 0 < l.length
  · exact settled_any l (asked kn l) ((asked kn l).map (askOf kn l 1 5)) many vl vc vq hl hc (by rw [List.length_map]; exact hq) (by rw [List.length_map]) h0 h.six (asked_le kn l) (asked_in kn l) h.rok (qok_one h)
  · have e : l = [] := List.eq_nil_of_length_eq_zero (by omega)
    subst e
    have ea : asked kn [] = [] := by
      have := asked_in kn []
      cases hh : asked kn [] with
      | nil => rfl
      | cons a t => exact absurd (this a (by rw [hh]; exact List.mem_cons_self ..)) (by simp)
    rw [ea] at hc
    have := settled_nil vl vc vq many hl hc
    unfold partS
    rw [ea]
    exact this
theorem given_one {w : World} {kn : List Bool} {l : List Rc} {M : Int} (h : One kn l M) {vk vl : Value} (h1 : Rd w 1 vk kn.length (kn.map Value.bool)) (h2 : Rd w 10 vl l.length (l.flatMap Rc.cs)) : Given w kn l vk vl := by
  have h6 := h.six
  have hl := h.len
  refine ⟨h1, h2, by omega, by omega, fun r hr => ?_⟩
  have := (h.rok r hr).1.mask
  omega
end Go.Proofs.Ytaeeflfhjmjpjaa
