/- A history's End. -/
import Derived.Test.YtmpkcmgdamfaaaaHist
namespace Go.Proofs.Ytmpkcmgdamfaaaa
open Go.RowKit SlRd
set_option linter.unusedVariables false

/-- may the n-th end? -/
def ends (evs : List Ev) (n : Int) : Bool := decide (0 ≤ n) && (decide (n < evs.length) && ((evs.getD n.toNat default).end_ == 0))
def endAt (evs : List Ev) (n : Nat) (t er : Int) (da : ByteArray) : List Ev := evs.set n { evs.getD n default with end_ := t, err := er, data := da }
theorem endAt_length (evs : List Ev) (n : Nat) (t er : Int) (da : ByteArray) : (endAt evs n t er da).length = evs.length := List.length_set
theorem ends_lo (evs : List Ev) (n : Int) (h : n < 0) : ends evs n = false := by unfold ends; simp; omega
theorem ends_hi (evs : List Ev) (n : Int) (h : (evs.length : Int) ≤ n) : ends evs n = false := by unfold ends; simp; omega
theorem ends_in (evs : List Ev) (k : Nat) (h : k < evs.length) : ends evs (k : Int) = (evs[k].end_ == 0) := by
  unfold ends
  simp [h]

theorem end_no {W : World} {H C : Nat} {v : Value} {evs : List Ev} {t : Int} (hi : HI W H C v evs t) (hl : evs.length ≤ 1000) (n er : Int) (da : ByteArray) (hn : -9223372036854775808 ≤ n ∧ n ≤ 9223372036854775807) (he : ends evs n = false) :
    Calls Try.prog 12 #[.pointer (some ⟨H, 0, none⟩), .int .i64 n, .int .i64 er, .string da] W fun e w' => e = .returned (.bool false) ∧ W = w' := by
  obtain ⟨a, c, rfl⟩ := hi.form
  have h0 := hi.h.cell 0
  simp only [List.getElem?_toArray, List.getElem?_cons_zero] at h0
  have hr : Rd W 8 (.slice a evs.length c) evs.length (evs.flatMap Ev.cs) := Rd.of_owns hi.own
  clear hi
  by_cases h1 : n < 0
  · clear he hr
    go_enter Try.func12, Try.ntmps12
    go_wp2_with fail
    go_ret
    exact ⟨rfl, rfl⟩
  · by_cases h2 : (evs.length : Int) ≤ n
    · clear he hr
      go_enter Try.func12, Try.ntmps12
      go_wp2_with fail
      go_ret
      exact ⟨rfl, rfl⟩
    · obtain ⟨k, rfl⟩ : ∃ k : Nat, n = k := ⟨n.toNat, by omega⟩
      have hk : k < evs.length := by omega
      rw [ends_in evs k hk] at he
      obtain ⟨b, o, rfl, hb1, hc1⟩ := Rd.atk Ev.cs (fun _ => rfl) hr rfl k hk
      have p2 := hc1 2 (by omega)
      simp only [Ev.cs, List.getElem?_cons_zero, List.getElem?_cons_succ] at p2
      generalize evs[k].end_ = z at p2 he
      have hz : (z != 0) = true := by simpa using he
      clear he hr hc1
      have i1 : (0 : Int) ≤ (k : Int) := by omega
      have i2 : (k : Int) < (evs.length : Int) := by omega
      go_enter Try.func12, Try.ntmps12
      go_wp2_with fail
      go_ret
      exact ⟨rfl, rfl⟩

theorem endAt_flat (t er : Int) (da : ByteArray) : ∀ (evs : List Ev) (k : Nat), k < evs.length →
    (((evs.flatMap Ev.cs).set (k * 8 + 2) (.int .i64 t)).set (k * 8 + 6) (.int .i64 er)).set (k * 8 + 7) (.string da) = (endAt evs k t er da).flatMap Ev.cs
  | [], k, hk => absurd hk (by simp)
  | x :: l, 0, _ => by simp [endAt]
  | x :: l, k + 1, hk => by
    have ih := endAt_flat t er da l k (by simpa using hk)
    have e2 : (k + 1) * 8 + 2 = k * 8 + 2 + 1 + 1 + 1 + 1 + 1 + 1 + 1 + 1 := by omega
    have e6 : (k + 1) * 8 + 6 = k * 8 + 6 + 1 + 1 + 1 + 1 + 1 + 1 + 1 + 1 := by omega
    have e7 : (k + 1) * 8 + 7 = k * 8 + 7 + 1 + 1 + 1 + 1 + 1 + 1 + 1 + 1 := by omega
    have e : endAt (x :: l) (k + 1) t er da = x :: endAt l k t er da := by simp [endAt]
    rw [e, List.flatMap_cons, List.flatMap_cons, ← ih, e2, e6, e7]
    simp only [Ev.cs, List.cons_append, List.nil_append, List.set_cons_succ]

set_option maxHeartbeats 800000 in
theorem end_yes {W : World} {H C : Nat} {v : Value} {evs : List Ev} {t : Int} (hi : HI W H C v evs t) (hl : evs.length ≤ 1000) (h0 : 0 ≤ t) (h1 : t < 1000) (k : Nat) (er : Int) (da : ByteArray) (hk : k < evs.length) (he : evs[k].end_ = 0) :
    Calls Try.prog 12 #[.pointer (some ⟨H, 0, none⟩), .int .i64 k, .int .i64 er, .string da] W fun e w' => e = .returned (.bool true) ∧ HI w' H C v (endAt evs k (t + 1) er da) (t + 1) ∧ SlRd.Touch (HS H C v) W w' := by
  obtain ⟨g, cap, rfl, _, _⟩ := hi.own.form (by omega)
  have c0 := hi.h.cell 0
  have c1 := hi.h.cell 1
  simp only [List.getElem?_toArray, List.getElem?_cons_zero, List.getElem?_cons_succ] at c0 c1
  have hHC : H ≠ C := hi.h.ne_ hi.c (by decide)
  have hgH : g ≠ H := by have := own_blk_ne hi.own hi.h (by decide); simpa [Value.ownBlock] using this
  have hgC : g ≠ C := by have := own_blk_ne hi.own hi.c (by decide); simpa [Value.ownBlock] using this
  have hcc : ∀ j, j < 8 → W.cell? ⟨g, k * 8 + j, none⟩ = (evs[k].cs)[j]? := fun j hj => by
    rw [hi.own.cellAt (k * 8 + j) (by omega)]
    exact flat_get Ev.cs 8 (fun _ => rfl) evs k j hk hj
  have p2 := hcc 2 (by omega)
  have p6 := hcc 6 (by omega)
  have p7 := hcc 7 (by omega)
  simp only [Ev.cs, List.getElem?_cons_zero, List.getElem?_cons_succ] at p2 p6 p7
  have f2 := hi.own.frozenAt (k * 8 + 2)
  have f6 := hi.own.frozenAt (k * 8 + 6)
  have f7 := hi.own.frozenAt (k * 8 + 7)
  have i1 : (0 : Int) ≤ (k : Int) := by omega
  have i2 : (k : Int) < (evs.length : Int) := by omega
  rw [he] at p2
  have FIN : HI ((((W.setCell ⟨C, 0, none⟩ (.int .i64 (t + 1))).setCell ⟨g, k * 8 + 2, none⟩ (.int .i64 (t + 1))).setCell ⟨g, k * 8 + 6, none⟩ (.int .i64 er)).setCell ⟨g, k * 8 + 7, none⟩ (.string da)) H C (.slice (some ⟨g, 0, none⟩) evs.length cap) (endAt evs k (t + 1) er da) (t + 1) ∧
      SlRd.Touch (HS H C (.slice (some ⟨g, 0, none⟩) evs.length cap)) W ((((W.setCell ⟨C, 0, none⟩ (.int .i64 (t + 1))).setCell ⟨g, k * 8 + 2, none⟩ (.int .i64 (t + 1))).setCell ⟨g, k * 8 + 6, none⟩ (.int .i64 er)).setCell ⟨g, k * 8 + 7, none⟩ (.string da)) := by
    refine ⟨⟨?_, ?_, ?_⟩, ?_⟩
    · exact (((hi.h.far (p := ⟨C, 0, none⟩) hHC _).far (p := ⟨g, _, none⟩) (Ne.symm hgH) _).far (p := ⟨g, _, none⟩) (Ne.symm hgH) _).far (p := ⟨g, _, none⟩) (Ne.symm hgH) _
    · exact (((hi.c.set_ 0 (.int .i64 (t + 1))).far (p := ⟨g, _, none⟩) (Ne.symm hgC) _).far (p := ⟨g, _, none⟩) (Ne.symm hgC) _).far (p := ⟨g, _, none⟩) (Ne.symm hgC) _
    · have o1 := owns_setCell hi.own ⟨C, 0, none⟩ (.int .i64 (t + 1)) (fun q hq => by cases hq; exact hgC)
      have o2 := ((o1.stored (k * 8 + 2) (.int .i64 (t + 1))).1.stored (k * 8 + 6) (.int .i64 er)).1.stored (k * 8 + 7) (.string da) |>.1
      rw [endAt_flat _ _ _ _ _ hk] at o2
      rw [endAt_length]
      exact o2
    · exact (((SlRd.Touch.setCell _ _ (.inr (.inl rfl))).trans (SlRd.Touch.setCell _ _ (.inr (.inr rfl)))).trans (SlRd.Touch.setCell _ _ (.inr (.inr rfl)))).trans (SlRd.Touch.setCell _ _ (.inr (.inr rfl)))
  have FIN := Lib.hid FIN
  have hC := Lib.hid (clock_any C t W hi.c h0 (by omega))
  clear hi hcc he
  go_enter Try.func12, Try.ntmps12
  go_wp2_with (go_at_call 21; refine hC.out.mono ?_; rintro e w' ⟨rfl, rfl⟩)
  go_ret
  exact ⟨rfl, FIN.out.1, FIN.out.2⟩
end Go.Proofs.Ytmpkcmgdamfaaaa
