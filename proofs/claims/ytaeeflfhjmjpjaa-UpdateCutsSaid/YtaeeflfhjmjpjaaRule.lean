/- The small walks of the document's layers 8 and 9: right records, right asks, what an answer bears. -/
import Derived.Test.YtaeeflfhjmjpjaaDoneP
import Derived.RegionTactic
import Derived.BigRegion
import Derived.ChangeAlike
namespace Go.Proofs.Ytaeeflfhjmjpjaa
open Go.RowKit SlRd
set_option linter.unusedVariables false

def Tg.ok (t : Tg) : Prop := 0 ≤ t.e ∧ t.e ≤ 16777215 ∧ 0 ≤ t.s ∧ t.s ≤ 16777215
structure Rc.right (r : Rc) : Prop where
  used : r.used = true
  done : r.done.ok
  intent : r.intent.ok
  fence : 0 ≤ r.fence ∧ r.fence ≤ 16777215
  mask : 0 ≤ r.mask ∧ r.mask ≤ 63
  block : r.block.size = 16
  opened : r.op = true → r.staged.size = 16
  shut : r.op = false → r.staged = ⟨#[]⟩ ∧ r.intent = ⟨0, 0⟩ ∧ r.mask = 0

theorem num_true (n : Int) (h1 : 1 ≤ n) (h2 : n ≤ 16777215) (w : World) : Calls Try.prog 49 #[.int .i64 n] w fun e w' => e = .returned (.bool true) ∧ w = w' := by
  go_enter Try.func49, Try.ntmps49
  go_wp2_with fail
  go_ret
  exact ⟨rfl, rfl⟩
theorem num_zero (w : World) : Calls Try.prog 49 #[.int .i64 0] w fun e w' => e = .returned (.bool false) ∧ w = w' := by
  go_enter Try.func49, Try.ntmps49
  go_wp2_with fail
  go_ret
  exact ⟨rfl, rfl⟩
theorem tag_true (t : Tg) (h : t.ok) (w : World) : Calls Try.prog 58 #[t.v] w fun e w' => e = .returned (.bool true) ∧ Below w.heap.size w w' := by
  obtain ⟨te, ts⟩ := t
  obtain ⟨h1, h2, h3, h4⟩ := h
  simp only at h1 h2 h3 h4
  go_enter Try.func58, Try.ntmps58
  go_wp2_with fail
  go_ret
  exact ⟨rfl, (Below.refl _ _).alloc (Nat.le_refl _) _⟩
theorem before_any (a b : Tg) (w : World) : Calls Try.prog 52 #[a.v, b.v] w fun e w' => e = .returned (.bool (decide (a.e < b.e) || (a.e == b.e && decide (a.s < b.s)))) ∧ Below w.heap.size w w' := by
  obtain ⟨ae, as'⟩ := a
  obtain ⟨be, bs⟩ := b
  go_enter Try.func52, Try.ntmps52
  by_cases h1 : ae < be
  · go_wp2_with fail
    go_ret
    exact ⟨by rw [decide_eq_true h1]; rfl, ((Below.refl _ _).alloc (Nat.le_refl _) _).alloc (by simp) _⟩
  · by_cases h2 : ae = be
    · subst h2
      go_wp2_with fail
      go_ret
      refine ⟨?_, ((Below.refl _ _).alloc (Nat.le_refl _) _).alloc (by simp) _⟩
      first | rfl | (rw [decide_eq_false (show ¬ ae < ae by omega), show (ae == ae) = true from by simp]; rfl)
    · have h3 : (ae == be) = false := by simpa using h2
      go_wp2_with fail
      go_ret
      refine ⟨?_, ((Below.refl _ _).alloc (Nat.le_refl _) _).alloc (by simp) _⟩
      first | rfl | (rw [decide_eq_false (show ¬ ae < be by omega)]; rfl) | (rw [decide_eq_false (show ¬ ae < be by omega), h3]; rfl)
theorem closed_any (r : Rc) (w : World) : Calls Try.prog 53 #[r.v] w fun e w' => e = .returned (Rc.v ⟨true, r.fence, r.done, r.block, false, ⟨0, 0⟩, 0, ⟨#[]⟩⟩) ∧ Below w.heap.size w w' := by
  obtain ⟨u, f, ⟨de, ds⟩, b, o, ⟨ie, is⟩, m, s⟩ := r
  go_enter Try.func53, Try.ntmps53
  go_wp2_with fail
  exact bodyPost_ret (v := Rc.v ⟨true, f, ⟨de, ds⟩, b, false, ⟨0, 0⟩, 0, ⟨#[]⟩⟩) (by simp [results, Try.results53, go_sem]) rfl ⟨rfl, ((Below.refl _ _).alloc (Nat.le_refl _) _).alloc (by simp) _⟩
theorem finished_any (r : Rc) (w : World) : Calls Try.prog 54 #[r.v] w fun e w' => e = .returned (Rc.v ⟨true, r.fence, r.intent, r.staged, false, ⟨0, 0⟩, 0, ⟨#[]⟩⟩) ∧ Below w.heap.size w w' := by
  obtain ⟨u, f, ⟨de, ds⟩, b, o, ⟨ie, is⟩, m, s⟩ := r
  go_enter Try.func54, Try.ntmps54
  go_wp2_with fail
  exact bodyPost_ret (v := Rc.v ⟨true, f, ⟨ie, is⟩, s, false, ⟨0, 0⟩, 0, ⟨#[]⟩⟩) (by simp [results, Try.results54, go_sem]) rfl ⟨rfl, ((Below.refl _ _).alloc (Nat.le_refl _) _).alloc (by simp) _⟩
@[reducible] def sayV (status epoch : Int) (r : Rc) : Value := .agg #[.int .i64 status, .int .i64 epoch, .int .i64 0, .bool r.used, .int .i64 r.fence, .int .i64 r.done.e, .int .i64 r.done.s, .string r.block, .bool r.op, .int .i64 r.intent.e, .int .i64 r.intent.s, .int .i64 r.mask, .string r.staged]
@[reducible] def nilRc : Rc := ⟨false, 0, ⟨0, 0⟩, ⟨#[]⟩, false, ⟨0, 0⟩, 0, ⟨#[]⟩⟩
theorem say_any (r : Rc) (status : Int) (w : World) : Calls Try.prog 51 #[r.v, .int .i64 status] w fun e w' => e = .returned (.tuple #[r.v, sayV status r.fence nilRc]) ∧ Below w.heap.size w w' := by
  obtain ⟨u, f, ⟨de, ds⟩, b, o, ⟨ie, is⟩, m, s⟩ := r
  go_enter Try.func51, Try.ntmps51
  go_wp2_with fail
  go_region
  go_wp2_with fail
  exact bodyPost_ret (v := .tuple #[Rc.v ⟨u, f, ⟨de, ds⟩, b, o, ⟨ie, is⟩, m, s⟩, sayV status f nilRc]) (by simp [results, Try.results51, go_sem]) rfl ⟨rfl, ((((Below.refl _ _).alloc (Nat.le_refl _) _).alloc (by simp) _).alloc (by simp; omega) _).drew⟩

set_option maxHeartbeats 800000 in
theorem right_rec (r : Rc) (h : r.right) (w : World) : Calls Try.prog 50 #[r.v] w fun e w' => e = .returned (.bool true) ∧ Below w.heap.size w w' := by
  have ht1 := Lib.hid (fun W => tag_true r.done h.done W)
  have ht2 := Lib.hid (fun W => tag_true r.intent h.intent W)
  obtain ⟨h1, h2, h3, h4, h5, h6, h7, h8⟩ := h
  obtain ⟨u, f, ⟨de, ds⟩, b, o, ⟨ie, is⟩, m, s⟩ := r
  simp only at h1 h2 h3 h4 h5 h6 h7 h8 ht1 ht2
  obtain rfl : u = true := h1
  obtain ⟨a1, a2⟩ := h4
  obtain ⟨a3, a4⟩ := h5
  have hb16 : ((b.size : Int) != 16) = false := by rw [h6]; rfl
  go_enter Try.func50, Try.ntmps50
  go_wp2_with fail
  have N4 := New.of w (Rc.cs ⟨true, f, ⟨de, ds⟩, b, o, ⟨ie, is⟩, m, s⟩) 37
  generalize w.alloc (.cells (Rc.cs ⟨true, f, ⟨de, ds⟩, b, o, ⟨ie, is⟩, m, s⟩).toArray 37) = w1 at N4 ⊢
  obtain ⟨N5, _, N7, N8⟩ := N4
  generalize w.heap.size = T at N5 N8 ⊢
  refine (ht1.out _).mono ?_; rintro e w2 ⟨rfl, hb1⟩
  have c1 : ∀ j, w2.cell? ⟨T, j, none⟩ = _ := fun j => (hb1.cell (p := ⟨T, j, none⟩) N8).trans (N5 j)
  have d6 := c1 6; have d7 := c1 7
  simp only [Rc.cs, List.getElem?_cons_zero, List.getElem?_cons_succ] at d6 d7
  go_wp2_with fail
  refine (ht2.out _).mono ?_; rintro e w3 ⟨rfl, hb2⟩
  have hT2 := Nat.lt_of_lt_of_le N8 hb1.size
  have c2 : ∀ j, w3.cell? ⟨T, j, none⟩ = _ := fun j => (hb2.cell (p := ⟨T, j, none⟩) hT2).trans (c1 j)
  have e0 := c2 0; have e1 := c2 1; have e2 := c2 2; have e3 := c2 3; have e4 := c2 4; have e5 := c2 5; have e6 := c2 6; have e7 := c2 7; have e8 := c2 8; have e9 := c2 9
  simp only [Rc.cs, List.getElem?_cons_zero, List.getElem?_cons_succ] at e0 e1 e2 e3 e4 e5 e6 e7 e8 e9
  have hB : Below w.heap.size w w3 := below_then (below_then N7 hb1) hb2
  clear c1 c2 d6 d7 N5 N7 N8 hb1 hb2 hT2 h6
  cases o
  · obtain ⟨rfl, e, rfl⟩ := h8 rfl
    cases e
    clear h7 h8
    go_wp2_with fail
    go_ret
    exact ⟨rfl, hB⟩
  · have hs16 : ((s.size : Int) == 16) = true := by rw [h7 rfl]; rfl
    clear h7 h8
    go_wp2_with fail
    go_ret
    exact ⟨rfl, hB⟩
end Go.Proofs.Ytaeeflfhjmjpjaa
