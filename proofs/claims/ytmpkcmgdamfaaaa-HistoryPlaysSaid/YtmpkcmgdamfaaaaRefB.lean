/- The document's Begin and End. -/
import Derived.Test.YtmpkcmgdamfaaaaRefH
import Derived.Test.YtmpkcmgdamfaaaaEnd
import Derived.Deep.RegionLaw
import Derived.Deep.DrawnRows
namespace Go.Proofs.Ytmpkcmgdamfaaaa
open Go.RowKit SlRd
set_option linter.unusedVariables false
attribute [local go_sem ↓] Go.wp_at_zero Go.wp_at_succ

theorem ri_drew {W : World} {R : Nat} {v : Value} {evs : List Ev} {t : Int} (h : RI W R v evs t) : RI W.drew R v evs t := ⟨h.h, h.own⟩
theorem touch_drew {S : Nat → Prop} {W W' : World} (h : SlRd.Touch S W W') : SlRd.Touch S W W'.drew := ⟨h.os, h.tape, h.output, h.size, h.block⟩

theorem refEnd_no {W : World} {R : Nat} {v : Value} {evs : List Ev} {t : Int} (hi : RI W R v evs t) (hl : evs.length ≤ 1000) (n er : Int) (da : ByteArray) (hn : -9223372036854775808 ≤ n ∧ n ≤ 9223372036854775807) (he : ends evs n = false) :
    Calls Try.prog 13 #[.pointer (some ⟨R, 0, none⟩), .int .i64 n, .int .i64 er, .string da] W fun e w' => e = .returned (.bool false) ∧ W = w' := by
  obtain ⟨a, c, rfl⟩ := hi.form
  have h0 := hi.h.cell 0
  simp only [List.getElem?_toArray, List.getElem?_cons_zero] at h0
  have hr : Rd W 8 (.slice a evs.length c) evs.length (evs.flatMap Ev.cs) := Rd.of_owns hi.own
  clear hi
  by_cases h1 : n < 0
  · clear he hr
    go_enter Try.func13, Try.ntmps13
    go_wp2_with fail
    go_ret
    exact ⟨rfl, rfl⟩
  · by_cases h2 : (evs.length : Int) ≤ n
    · clear he hr
      go_enter Try.func13, Try.ntmps13
      go_wp2_with fail
      go_ret
      exact ⟨rfl, rfl⟩
    · obtain ⟨k, rfl⟩ : ∃ k : Nat, n = k := ⟨n.toNat, by omega⟩
      have hk : k < evs.length := by omega
      rw [ends_in evs k hk] at he
      obtain ⟨b, o, rfl, hb1, hc1⟩ := Rd.atk Ev.cs (fun _ => rfl) hr rfl k hk
      have p2 := hc1 2 (by omega)
      simp only [Ev.cs, List.getElem?_cons_zero, List.getElem?_cons_succ] at p2
      generalize evs[k].end_ = z at p2 he
      have hz : (z != 0) = true := by simpa using he
      clear he hr hc1
      have i1 : (0 : Int) ≤ (k : Int) := by omega
      have i2 : (k : Int) < (evs.length : Int) := by omega
      go_enter Try.func13, Try.ntmps13
      go_wp2_with fail
      go_ret
      exact ⟨rfl, rfl⟩

set_option maxHeartbeats 1600000 in
theorem refEnd_yes {W : World} {R : Nat} {v : Value} {evs : List Ev} {t : Int} (hi : RI W R v evs t) (hl : evs.length ≤ 1000) (h0 : 0 ≤ t) (h1 : t < 1000) (k : Nat) (er : Int) (da : ByteArray) (hk : k < evs.length) (he : evs[k].end_ = 0) :
    Calls Try.prog 13 #[.pointer (some ⟨R, 0, none⟩), .int .i64 k, .int .i64 er, .string da] W fun e w' => e = .returned (.bool true) ∧ RI w' R v (endAt evs k (t + 1) er da) (t + 1) ∧ SlRd.Touch (RS R v) W w' := by
  obtain ⟨g, cap, rfl, _, _⟩ := hi.own.form (by omega)
  have c0 := hi.h.cell 0
  have c1 := hi.h.cell 1
  simp only [List.getElem?_toArray, List.getElem?_cons_zero, List.getElem?_cons_succ] at c0 c1
  have hgR : g ≠ R := by have := own_blk_ne hi.own hi.h (by decide); simpa [Value.ownBlock] using this
  have hcc : ∀ j, j < 8 → W.cell? ⟨g, k * 8 + j, none⟩ = (evs[k].cs)[j]? := fun j hj => by
    rw [hi.own.cellAt (k * 8 + j) (by omega)]
    exact flat_get Ev.cs 8 (fun _ => rfl) evs k j hk hj
  have p2 := hcc 2 (by omega)
  have p6 := hcc 6 (by omega)
  have p7 := hcc 7 (by omega)
  simp only [Ev.cs, List.getElem?_cons_zero, List.getElem?_cons_succ] at p2 p6 p7
  have f2 := hi.own.frozenAt (k * 8 + 2)
  have f6 := hi.own.frozenAt (k * 8 + 6)
  have f7 := hi.own.frozenAt (k * 8 + 7)
  have fR := hi.h.frozen 1
  have i1 : (0 : Int) ≤ (k : Int) := by omega
  have i2 : (k : Int) < (evs.length : Int) := by omega
  rw [he] at p2
  have FIN : RI ((((W.setCell ⟨R, 1, none⟩ (.int .i64 (t + 1))).setCell ⟨g, k * 8 + 2, none⟩ (.int .i64 (t + 1))).setCell ⟨g, k * 8 + 6, none⟩ (.int .i64 er)).setCell ⟨g, k * 8 + 7, none⟩ (.string da)) R (.slice (some ⟨g, 0, none⟩) evs.length cap) (endAt evs k (t + 1) er da) (t + 1) ∧
      SlRd.Touch (RS R (.slice (some ⟨g, 0, none⟩) evs.length cap)) W ((((W.setCell ⟨R, 1, none⟩ (.int .i64 (t + 1))).setCell ⟨g, k * 8 + 2, none⟩ (.int .i64 (t + 1))).setCell ⟨g, k * 8 + 6, none⟩ (.int .i64 er)).setCell ⟨g, k * 8 + 7, none⟩ (.string da)) := by
    refine ⟨⟨?_, ?_⟩, ?_⟩
    · exact (((hi.h.set_ 1 (.int .i64 (t + 1))).far (p := ⟨g, _, none⟩) (Ne.symm hgR) _).far (p := ⟨g, _, none⟩) (Ne.symm hgR) _).far (p := ⟨g, _, none⟩) (Ne.symm hgR) _
    · have o1 := owns_setCell hi.own ⟨R, 1, none⟩ (.int .i64 (t + 1)) (fun q hq => by cases hq; exact hgR)
      have o2 := ((o1.stored (k * 8 + 2) (.int .i64 (t + 1))).1.stored (k * 8 + 6) (.int .i64 er)).1.stored (k * 8 + 7) (.string da) |>.1
      rw [endAt_flat _ _ _ _ _ hk] at o2
      rw [endAt_length]
      exact o2
    · exact (((SlRd.Touch.setCell _ _ (.inl rfl)).trans (SlRd.Touch.setCell _ _ (.inr rfl))).trans (SlRd.Touch.setCell _ _ (.inr rfl))).trans (SlRd.Touch.setCell _ _ (.inr rfl))
  have FIN := Lib.hid FIN
  clear hi hcc he
  go_enter Try.func13, Try.ntmps13
  go_wp2_with fail
  go_region
  all_goals go_wp2_with fail
  all_goals go_ret
  all_goals exact ⟨rfl, ri_drew FIN.out.1, touch_drew FIN.out.2⟩
end Go.Proofs.Ytmpkcmgdamfaaaa
