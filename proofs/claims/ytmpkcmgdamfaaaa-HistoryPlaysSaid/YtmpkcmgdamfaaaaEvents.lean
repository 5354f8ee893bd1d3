/- A history's Events: a copy of all of them. -/
import Derived.Test.YtmpkcmgdamfaaaaHist
import Derived.Lib.SliceRun
namespace Go.Proofs.Ytmpkcmgdamfaaaa
open Go.RowKit SlRd
set_option linter.unusedVariables false

theorem clone_any {W : World} {v : Value} {evs : List Ev} (hown : W.ownsRow 0 46 8 v evs.length (evs.flatMap Ev.cs)) (hl : evs.length ≤ 1000) :
    Calls Try.prog 24 #[v] W fun e w' => ∃ v', e = .returned v' ∧ Rd w' 8 v' evs.length (evs.flatMap Ev.cs) ∧ Below W.heap.size W w' := by
  obtain ⟨i0, hi0, hz0, hz1, hz2⟩ := info_parts info46
  have hq : ∀ (w : World) (a : Option Addr) (n c n' c' : Nat), (binOp .eql 35 (.slice a n c) (.slice none n' c')).run Try.prog w = .ok (.bool a.isNone) w := fun w a n c n' c' => Lib.run_eql_slice_nil w _ _ a n c n' c' Try.underlying35
  rcases hown.2 with ⟨rfl, h0⟩ | ⟨g, cap, cur, rfl, hb, hh, hrest⟩
  · have hn : evs = [] := by simpa using h0
    subst hn
    go_enter Try.func24, Try.ntmps24
    go_wp2_with fail
    go_ret
    exact ⟨_, rfl, Rd.nil _ _, Below.refl _ _⟩
  · have hr := Rd.of_owns hown
    have hlt : g < W.heap.size := (Array.getElem?_eq_some_iff.1 hh).1
    have hcell := fun j u hu => hown.cells (g := g) rfl j u hu
    have hlen := hown.1
    clear hh hrest
    go_enter Try.func24, Try.ntmps24
    go_wp2_with (at_builtin; refine wpList_append_own _ rfl _ _ 35 rfl W.heap.size 46 i0 _ 8 80 Try.underlying35 hi0 hz0 hz1 hz2 rfl (by decide) _ _ _ rfl (World.ownsRow_made W #[] 0 (Nat.le_refl _) (by unfold maxLen; omega) rfl) ⟨g, 0, none⟩ evs.length cap (evs.flatMap Ev.cs) rfl hlen ?c1 ?c2 ?c3 ?c4 ?c5 ?_)
    case c1 => exact fun j u hu => (Below.refl _ _).alloc (Nat.le_refl _) _ |>.cell (p := (⟨g, 0, none⟩ : Addr).add j) (by rw [Go.WideShapes.add_plain]; exact hlt) |>.trans (hcell j u hu)
    case c2 =>
      intro u hu
      obtain ⟨x, _, hx⟩ := List.mem_flatMap.1 hu
      exact ev_one x u hx
    case c3 => unfold maxLen; omega
    case c4 => omega
    case c5 => simp
    · intro v' w8 hown' hgrow _
      have HO := Rd.of_owns hown'
      have HB := Lib.hid (((Below.refl W.heap.size W).alloc (Nat.le_refl _) (.cells #[] 46)).grown hgrow (by simp) (fun q hq => by cases hq; exact Nat.le_refl _))
      go_wp2_with fail
      go_ret
      exact ⟨_, rfl, HO, HB.out⟩

theorem events_any {W : World} {H C : Nat} {v : Value} {evs : List Ev} {t : Int} (hi : HI W H C v evs t) (hl : evs.length ≤ 1000) :
    Calls Try.prog 19 #[.pointer (some ⟨H, 0, none⟩)] W fun e w' => ∃ v', e = .returned v' ∧ Rd w' 8 v' evs.length (evs.flatMap Ev.cs) ∧ Below W.heap.size W w' := by
  have h0 := hi.h.cell 0
  simp only [List.getElem?_toArray, List.getElem?_cons_zero] at h0
  have hc := Lib.hid (clone_any hi.own hl)
  clear hi
  go_enter Try.func19, Try.ntmps19
  go_wp2_with fail
  refine hc.out.mono ?_; rintro e w2 ⟨v', rfl, hr, hb⟩
  go_wp2_with fail
  go_ret
  exact ⟨_, rfl, hr, hb⟩
end Go.Proofs.Ytmpkcmgdamfaaaa
