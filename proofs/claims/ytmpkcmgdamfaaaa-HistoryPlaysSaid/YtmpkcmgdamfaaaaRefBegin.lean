/- The document's Begin. -/
import Derived.Test.YtmpkcmgdamfaaaaRefB
import Derived.Deep.AppendLies
namespace Go.Proofs.Ytmpkcmgdamfaaaa
open Go.RowKit SlRd
set_option linter.unusedVariables false
attribute [local go_sem ↓] Go.wp_at_zero Go.wp_at_succ
@[reducible] def newEv2 (p : Int) (o : Op) (t : Int) : Ev := ⟨p, t, 0, o, 0, ⟨#[]⟩⟩

theorem refBegin_full {W : World} {R : Nat} {v : Value} {evs : List Ev} {t : Int} (hi : RI W R v evs t) (hl : evs.length = 200) (p : Int) (o : Op) :
    Calls Try.prog 11 #[.pointer (some ⟨R, 0, none⟩), .int .i64 p, o.v] W fun e w' => e = .returned (.int .i64 (-1)) ∧ Below W.heap.size W w' := by
  obtain ⟨a, c, rfl⟩ := hi.form
  have hi2 := hi.below ((Below.refl _ W).alloc (Nat.le_refl _) (.cells #[.int .i64 o.kind, .int .i64 o.at_, .string o.data] 31))
  have h0 := hi2.h.cell 0
  simp only [List.getElem?_toArray, List.getElem?_cons_zero] at h0
  clear hi hi2
  rw [hl] at h0
  obtain ⟨ok, oa, od⟩ := o
  go_enter Try.func11, Try.ntmps11
  go_wp2_with fail
  go_ret
  exact ⟨rfl, (Below.refl _ _).alloc (Nat.le_refl _) _⟩

theorem ret_int2 {k : IntKind} {a b : Int} (h : a = b) : Ending.returned (.int k a) = .returned (.int k b) := by rw [h]
set_option maxRecDepth 100000 in
set_option maxHeartbeats 1600000 in
theorem refBegin_any {W : World} {R : Nat} {v : Value} {evs : List Ev} {t : Int} (hi : RI W R v evs t) (hl : evs.length < 200) (h0 : 0 ≤ t) (h1 : t < 1000) (p : Int) (o : Op) :
    Calls Try.prog 11 #[.pointer (some ⟨R, 0, none⟩), .int .i64 p, o.v] W fun e w' => ∃ v', e = .returned (.int .i64 evs.length) ∧ RI w' R v' (evs ++ [newEv2 p o (t + 1)]) (t + 1) ∧ SlRd.Touch (RS R v) W w' ∧ (∀ i, v'.ownBlock = some i → v.ownBlock = some i ∨ W.heap.size ≤ i) := by
  obtain ⟨a, c, rfl⟩ := hi.form
  have hB := (Below.refl _ W).alloc (Nat.le_refl _) (.cells #[.int .i64 o.kind, .int .i64 o.at_, .string o.data] 31)
  have hi2 := hi.below hB
  have o2 : Blk (W.alloc (.cells #[.int .i64 o.kind, .int .i64 o.at_, .string o.data] 31)) W.heap.size 31 #[.int .i64 o.kind, .int .i64 o.at_, .string o.data] := Blk.new _ _ _
  obtain ⟨i0, hi0, hz0, hz1, hz2⟩ := info_parts info46
  obtain ⟨ok, oa, od⟩ := o
  have c0 := hi2.h.cell 0
  have c1 := hi2.h.cell 1
  have fR1 := hi2.h.frozen 1
  simp only [List.getElem?_toArray, List.getElem?_cons_zero, List.getElem?_cons_succ] at c0 c1
  have hXR := o2.ne_ hi2.h (by decide)
  go_enter Try.func11, Try.ntmps11
  go_upto_region 3 with fail
  generalize hw1 : W.alloc (.cells #[.int .i64 ok, .int .i64 oa, .string od] 31) = w1 at hB hi2 o2 c0 c1 fR1 ⊢
  generalize hX : W.heap.size = X at o2 hXR ⊢
  clear hi
  go_upto_region 4 with fail
  have nR := own_blk_ne hi2.own hi2.h (by decide)
  have nX := own_blk_ne hi2.own o2 (by decide)
  have hB2 := SlRd.Touch.of_below (S := RS R (.slice a evs.length c)) hB |>.trans (SlRd.Touch.setCell ⟨R, 1, none⟩ (.int .i64 (t + 1)) (.inl rfl))
  have r2 : Blk (w1.setCell ⟨R, 1, none⟩ (.int .i64 (t + 1))) R 37 #[.slice a evs.length c, .int .i64 (t + 1)] := hi2.h.set_ 1 _
  have x2 : Blk (w1.setCell ⟨R, 1, none⟩ (.int .i64 (t + 1))) X 31 #[.int .i64 ok, .int .i64 oa, .string od] := o2.far hXR _
  have own2 : (w1.setCell ⟨R, 1, none⟩ (.int .i64 (t + 1))).ownsRow 0 46 8 (.slice a evs.length c) evs.length (evs.flatMap Ev.cs) := owns_setCell hi2.own _ _ (fun k hk e => nR (by rw [hk, e]))
  have hle := hB.size
  have hsz : (w1.setCell ⟨R, 1, none⟩ (.int .i64 (t + 1))).heap.size = w1.heap.size := by simp [World.setCell]
  rw [← hsz] at hle
  clear hB hi2 o2 c0 c1 fR1 hsz
  generalize w1.setCell ⟨R, 1, none⟩ (.int .i64 (t + 1)) = w2 at hB2 r2 x2 own2 hle ⊢
  have c0 := r2.cell 0
  have c1 := r2.cell 1
  have fR := r2.frozen 0
  have x0 := x2.cell 0
  have x1 := x2.cell 1
  have x3 := x2.cell 2
  simp only [List.getElem?_toArray, List.getElem?_cons_zero, List.getElem?_cons_succ] at c0 c1 x0 x1 x3
  have lR := r2.lt
  have lX := x2.lt
  have FA : ∀ w8, ((w2.alloc (.cells #[.int .i64 p, .int .i64 (t + 1), .int .i64 0, .int .i64 ok, .int .i64 oa, .string od, .int .i64 0, .string ⟨#[]⟩] 46)).drew).grownBy w8 (Value.slice a evs.length c).ownBlock →
      w8.cell? ⟨R, 0, none⟩ = some (.slice a evs.length c) ∧ w8.frozen? ⟨R, 0, none⟩ = false := fun w8 hg => by
    have b2 : w8.heap[R]? = _ := (hg.block R (by simp; omega) (Ne.symm nR)).trans ((Below.heap_alloc _ _ R lR).trans r2)
    exact ⟨Blk.cell (t := 37) b2 0, Blk.frozen (t := 37) b2 0⟩
  have NEWS : ∀ j u, (Ev.cs ⟨p, t + 1, 0, ⟨ok, oa, od⟩, 0, ⟨#[]⟩⟩)[j]? = some u → ((w2.alloc (.cells #[.int .i64 p, .int .i64 (t + 1), .int .i64 0, .int .i64 ok, .int .i64 oa, .string od, .int .i64 0, .string ⟨#[]⟩] 46)).drew).cell? ((⟨w2.heap.size, 0, none⟩ : Addr).add j) = some u := fun j u hj => by
    have hb := Blk.new w2 46 #[.int .i64 p, .int .i64 (t + 1), .int .i64 0, .int .i64 ok, .int .i64 oa, .string od, .int .i64 0, .string ⟨#[]⟩]
    rw [Go.WideShapes.add_plain, Nat.zero_add]
    exact (hb.cell j).trans (by simpa using hj)
  have FIN : ∀ g cap w8, w8.ownsRow 0 46 8 (.slice (some ⟨g, 0, none⟩) (evs.length + 1) cap) (evs.length + 1) (evs.flatMap Ev.cs ++ Ev.cs ⟨p, t + 1, 0, ⟨ok, oa, od⟩, 0, ⟨#[]⟩⟩) → ((w2.alloc (.cells #[.int .i64 p, .int .i64 (t + 1), .int .i64 0, .int .i64 ok, .int .i64 oa, .string od, .int .i64 0, .string ⟨#[]⟩] 46)).drew).grownBy w8 (Value.slice a evs.length c).ownBlock → ((Value.slice a evs.length c).ownBlock = some g ∨ g = ((w2.alloc (.cells #[.int .i64 p, .int .i64 (t + 1), .int .i64 0, .int .i64 ok, .int .i64 oa, .string od, .int .i64 0, .string ⟨#[]⟩] 46)).drew).heap.size) →
      RI (w8.setCell ⟨R, 0, none⟩ (.slice (some ⟨g, 0, none⟩) (evs.length + 1) cap)) R (.slice (some ⟨g, 0, none⟩) (evs.length + 1) cap) (evs ++ [newEv2 p ⟨ok, oa, od⟩ (t + 1)]) (t + 1) ∧
      SlRd.Touch (RS R (.slice a evs.length c)) W (w8.setCell ⟨R, 0, none⟩ (.slice (some ⟨g, 0, none⟩) (evs.length + 1) cap)) ∧
      (∀ i, (Value.slice (some ⟨g, 0, none⟩) (evs.length + 1) cap).ownBlock = some i → (Value.slice a evs.length c).ownBlock = some i ∨ W.heap.size ≤ i) := fun g cap w8 ho hg hat => by
    have b2 : Blk w8 R 37 #[.slice a evs.length c, .int .i64 (t + 1)] := (hg.block R (by simp; omega) (Ne.symm nR)).trans ((Below.heap_alloc _ _ R lR).trans r2)
    have hgR : g ≠ R := by
      have := own_blk_ne ho b2 (by decide)
      simpa [Value.ownBlock] using this
    have t3 := hB2.trans (SlRd.Touch.of_below (((Below.refl _ w2).alloc (Nat.le_refl _) (.cells #[.int .i64 p, .int .i64 (t + 1), .int .i64 0, .int .i64 ok, .int .i64 oa, .string od, .int .i64 0, .string ⟨#[]⟩] 46)).drew))
    have t4 := t3.trans (SlRd.Touch.of_grown hg fun i hi => .inr hi)
    refine ⟨⟨?_, ?_⟩, t4.trans (SlRd.Touch.setCell _ _ (.inl rfl)), ?_⟩
    · exact b2.set_ 0 _
    · rw [List.length_append, List.flatMap_append, List.flatMap_singleton]
      exact owns_setCell ho _ _ fun k hk => by cases hk; exact hgR
    · intro i hi
      have hi' : g = i := by simpa [Value.ownBlock] using hi
      subst hi'
      rcases hat with h | h
      · exact .inl h
      · right
        rw [h]
        simp
        omega
  have NEWS := Lib.hid NEWS
  have FIN := Lib.hid FIN
  have FA := Lib.hid FA
  have nwR := World.new_ne w2 _ c0
  have nwX := World.new_ne w2 _ x0
  have OWN := Lib.hid own2
  clear hw1 hX hB2 r2 x2 own2 hle
  go_region_law (refine step_append_lies _ (by rfl) _ _ 35 (by rfl) 0 46 i0 _ 8 80 Try.underlying35 hi0 hz0 hz1 hz2 rfl (by omega) _ _ _ (by rfl) (OWN.out.alloc _) ⟨w2.heap.size, 0, none⟩ 1 1 (Ev.cs ⟨p, t + 1, 0, ⟨ok, oa, od⟩, 0, ⟨#[]⟩⟩) (by rfl) rfl NEWS.out (ev_one _) (by omega) (by unfold maxLen; omega) (by omega) (by omega) _ rfl ?_; intro g cap w8 hown1 hgrow hat hlt; obtain ⟨q0, q1⟩ := FA.out _ hgrow)
  all_goals
    go_split_ands
    have FF := Lib.hid (FIN.out _ _ _ hown1 hgrow hat)
    clear hgrow hat hown1 FIN FA
    go_wp2_with fail
    go_ret
    exact ⟨ret_int2 (by omega), _, FF.out.1, FF.out.2.1, FF.out.2.2⟩
end Go.Proofs.Ytmpkcmgdamfaaaa
