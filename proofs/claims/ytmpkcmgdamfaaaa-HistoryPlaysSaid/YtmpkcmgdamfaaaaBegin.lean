/- A history's Begin. -/
import Derived.Test.YtmpkcmgdamfaaaaHist
import Derived.Deep.RegionLaw
import Derived.Deep.DrawnRows
namespace Go.Proofs.Ytmpkcmgdamfaaaa
open Go.RowKit SlRd
set_option linter.unusedVariables false
attribute [local go_sem ↓] Go.wp_at_zero Go.wp_at_succ

@[reducible] def newEv (p : Int) (o : Op) (t : Int) : Ev := ⟨p, t, 0, o, 0, ⟨#[]⟩⟩

theorem begin_full {W : World} {H C : Nat} {v : Value} {evs : List Ev} {t : Int} (hi : HI W H C v evs t) (hl : evs.length = 200) (p : Int) (o : Op) :
    Calls Try.prog 10 #[.pointer (some ⟨H, 0, none⟩), .int .i64 p, o.v] W fun e w' => e = .returned (.int .i64 (-1)) ∧ Below W.heap.size W w' := by
  obtain ⟨a, c, rfl⟩ := hi.form
  have hi2 := hi.below ((Below.refl _ W).alloc (Nat.le_refl _) (.cells #[.int .i64 o.kind, .int .i64 o.at_, .string o.data] 31))
  have h0 := hi2.h.cell 0
  simp only [List.getElem?_toArray, List.getElem?_cons_zero] at h0
  clear hi hi2
  rw [hl] at h0
  obtain ⟨ok, oa, od⟩ := o
  go_enter Try.func10, Try.ntmps10
  go_wp2_with fail
  go_ret
  exact ⟨rfl, (Below.refl _ _).alloc (Nat.le_refl _) _⟩

theorem ret_int {k : IntKind} {a b : Int} (h : a = b) : Ending.returned (.int k a) = .returned (.int k b) := by rw [h]
set_option maxRecDepth 100000 in
set_option maxHeartbeats 1600000 in
theorem begin_any {W : World} {H C : Nat} {v : Value} {evs : List Ev} {t : Int} (hi : HI W H C v evs t) (hl : evs.length < 200) (h0 : 0 ≤ t) (h1 : t < 1000) (p : Int) (o : Op) :
    Calls Try.prog 10 #[.pointer (some ⟨H, 0, none⟩), .int .i64 p, o.v] W fun e w' => ∃ v', e = .returned (.int .i64 evs.length) ∧ HI w' H C v' (evs ++ [newEv p o (t + 1)]) (t + 1) ∧ SlRd.Touch (HS H C v) W w' ∧ (∀ i, v'.ownBlock = some i → v.ownBlock = some i ∨ W.heap.size ≤ i) := by
  obtain ⟨a, c, rfl⟩ := hi.form
  have hB := (Below.refl _ W).alloc (Nat.le_refl _) (.cells #[.int .i64 o.kind, .int .i64 o.at_, .string o.data] 31)
  have hi2 := hi.below hB
  have o2 : Blk (W.alloc (.cells #[.int .i64 o.kind, .int .i64 o.at_, .string o.data] 31)) W.heap.size 31 #[.int .i64 o.kind, .int .i64 o.at_, .string o.data] := Blk.new _ _ _
  obtain ⟨i0, hi0, hz0, hz1, hz2⟩ := info_parts info46
  obtain ⟨ok, oa, od⟩ := o
  have c0 := hi2.h.cell 0
  have c1 := hi2.h.cell 1
  have x0 := o2.cell 0
  have x1 := o2.cell 1
  have x2 := o2.cell 2
  simp only [List.getElem?_toArray, List.getElem?_cons_zero, List.getElem?_cons_succ] at c0 c1 x0 x1 x2
  go_enter Try.func10, Try.ntmps10
  go_upto_region 3 with fail
  generalize hw1 : W.alloc (.cells #[.int .i64 ok, .int .i64 oa, .string od] 31) = w1 at hB hi2 o2 c0 c1 x0 x1 x2 ⊢
  generalize hX : W.heap.size = X at o2 x0 x1 x2 ⊢
  have hHC : H ≠ C := hi2.h.ne_ hi2.c (by decide)
  have hXC : X ≠ C := o2.ne_ hi2.c (by decide)
  have hXH : X ≠ H := o2.ne_ hi2.h (by decide)
  have hXH : X ≠ H := o2.ne_ hi2.h (by decide)
  have fH := hi2.h.frozen 0
  have nH := own_blk_ne hi2.own hi2.h (by decide)
  have nC := own_blk_ne hi2.own hi2.c (by decide)
  have nX := own_blk_ne hi2.own o2 (by decide)
  have lH := hi2.h.lt
  have lX := o2.lt
  have ownC : (w1.setCell ⟨C, 0, none⟩ (.int .i64 (t + 1))).ownsRow 0 46 8 (.slice a evs.length c) evs.length (evs.flatMap Ev.cs) := owns_setCell hi2.own _ _ (fun k hk e => nC (by rw [hk, e]))
  have HI2 := Lib.hid hi2
  have HB := Lib.hid hB
  have HO2 := Lib.hid o2
  have hC := Lib.hid (show Blk w1.drew C 3 #[.int .i64 t] from hi2.c)
  have HW := Lib.hid hw1
  have HX := Lib.hid hX
  have nwH := World.new_ne w1 _ c0
  have nwX := World.new_ne w1 _ x0
  have FA : ∀ w8, (((w1.setCell ⟨C, 0, none⟩ (.int .i64 (t + 1))).alloc (.cells #[.int .i64 p, .int .i64 (t + 1), .int .i64 0, .int .i64 ok, .int .i64 oa, .string od, .int .i64 0, .string ⟨#[]⟩] 46)).drew).grownBy w8 (Value.slice a evs.length c).ownBlock →
      w8.cell? ⟨H, 0, none⟩ = some (.slice a evs.length c) ∧ w8.frozen? ⟨H, 0, none⟩ = false := fun w8 hg => by
    have b1 : Blk (w1.setCell ⟨C, 0, none⟩ (.int .i64 (t + 1))) H 49 #[.slice a evs.length c, nextFn C] := hi2.h.far hHC _
    have b2 : w8.heap[H]? = _ := (hg.block H (by simp [World.setCell]; omega) (Ne.symm nH)).trans ((Below.heap_alloc _ _ H b1.lt).trans b1)
    exact ⟨Blk.cell (t := 49) b2 0, Blk.frozen (t := 49) b2 0⟩
  have NEWS : ∀ j u, (Ev.cs ⟨p, t + 1, 0, ⟨ok, oa, od⟩, 0, ⟨#[]⟩⟩)[j]? = some u → (((w1.setCell ⟨C, 0, none⟩ (.int .i64 (t + 1))).alloc (.cells #[.int .i64 p, .int .i64 (t + 1), .int .i64 0, .int .i64 ok, .int .i64 oa, .string od, .int .i64 0, .string ⟨#[]⟩] 46)).drew).cell? ((⟨w1.heap.size, 0, none⟩ : Addr).add j) = some u := fun j u hj => by
    have hb := Blk.new (w1.setCell ⟨C, 0, none⟩ (.int .i64 (t + 1))) 46 #[.int .i64 p, .int .i64 (t + 1), .int .i64 0, .int .i64 ok, .int .i64 oa, .string od, .int .i64 0, .string ⟨#[]⟩]
    rw [show (w1.setCell ⟨C, 0, none⟩ (.int .i64 (t + 1))).heap.size = w1.heap.size from by simp [World.setCell]] at hb
    rw [Go.WideShapes.add_plain, Nat.zero_add]
    exact (hb.cell j).trans (by simpa using hj)
  have FIN : ∀ g cap w8, w8.ownsRow 0 46 8 (.slice (some ⟨g, 0, none⟩) (evs.length + 1) cap) (evs.length + 1) (evs.flatMap Ev.cs ++ Ev.cs ⟨p, t + 1, 0, ⟨ok, oa, od⟩, 0, ⟨#[]⟩⟩) → (((w1.setCell ⟨C, 0, none⟩ (.int .i64 (t + 1))).alloc (.cells #[.int .i64 p, .int .i64 (t + 1), .int .i64 0, .int .i64 ok, .int .i64 oa, .string od, .int .i64 0, .string ⟨#[]⟩] 46)).drew).grownBy w8 (Value.slice a evs.length c).ownBlock → ((Value.slice a evs.length c).ownBlock = some g ∨ g = (((w1.setCell ⟨C, 0, none⟩ (.int .i64 (t + 1))).alloc (.cells #[.int .i64 p, .int .i64 (t + 1), .int .i64 0, .int .i64 ok, .int .i64 oa, .string od, .int .i64 0, .string ⟨#[]⟩] 46)).drew).heap.size) →
      HI (w8.setCell ⟨H, 0, none⟩ (.slice (some ⟨g, 0, none⟩) (evs.length + 1) cap)) H C (.slice (some ⟨g, 0, none⟩) (evs.length + 1) cap) (evs ++ [newEv p ⟨ok, oa, od⟩ (t + 1)]) (t + 1) ∧
      SlRd.Touch (HS H C (.slice a evs.length c)) W (w8.setCell ⟨H, 0, none⟩ (.slice (some ⟨g, 0, none⟩) (evs.length + 1) cap)) ∧
      (∀ i, (Value.slice (some ⟨g, 0, none⟩) (evs.length + 1) cap).ownBlock = some i → (Value.slice a evs.length c).ownBlock = some i ∨ W.heap.size ≤ i) := fun g cap w8 ho hg hat => by
    have b1 : Blk (w1.setCell ⟨C, 0, none⟩ (.int .i64 (t + 1))) H 49 #[.slice a evs.length c, nextFn C] := hi2.h.far hHC _
    have b2 : Blk w8 H 49 #[.slice a evs.length c, nextFn C] := (hg.block H (by simp [World.setCell]; omega) (Ne.symm nH)).trans ((Below.heap_alloc _ _ H b1.lt).trans b1)
    have c1 : Blk (w1.setCell ⟨C, 0, none⟩ (.int .i64 (t + 1))) C 3 #[.int .i64 (t + 1)] := hi2.c.set_ 0 _
    have c2 : Blk w8 C 3 #[.int .i64 (t + 1)] := (hg.block C (Nat.lt_of_lt_of_le c1.lt (by simp)) (Ne.symm nC)).trans ((Below.heap_alloc _ _ C c1.lt).trans c1)
    have hgH : g ≠ H := by
      have := own_blk_ne ho b2 (by decide)
      simpa [Value.ownBlock] using this
    have t1 : SlRd.Touch (HS H C (.slice a evs.length c)) W w1 := SlRd.Touch.of_below hB
    have t2 := t1.trans (SlRd.Touch.setCell (S := HS H C (.slice a evs.length c)) ⟨C, 0, none⟩ (.int .i64 (t + 1)) (.inr (.inl rfl)))
    have t3 : SlRd.Touch (HS H C (.slice a evs.length c)) W (((w1.setCell ⟨C, 0, none⟩ (.int .i64 (t + 1))).alloc (.cells #[.int .i64 p, .int .i64 (t + 1), .int .i64 0, .int .i64 ok, .int .i64 oa, .string od, .int .i64 0, .string ⟨#[]⟩] 46)).drew) := t2.trans (SlRd.Touch.of_below (((Below.refl _ _).alloc (Nat.le_refl _) _).drew))
    have t4 := t3.trans (SlRd.Touch.of_grown hg fun i hi => .inr (.inr hi))
    refine ⟨⟨?_, ?_, ?_⟩, t4.trans (SlRd.Touch.setCell _ _ (.inl rfl)), ?_⟩
    · exact b2.set_ 0 _
    · exact c2.far (Ne.symm hHC) _
    · rw [List.length_append, List.flatMap_append, List.flatMap_singleton]
      exact owns_setCell ho _ _ fun k hk => by cases hk; exact hgH
    · intro i hi
      have hi' : g = i := by simpa [Value.ownBlock] using hi
      subst hi'
      rcases hat with h | h
      · exact .inl h
      · right
        have := hB.size
        rw [h]
        simp [World.setCell]
        omega
  have NEWS := Lib.hid NEWS
  have FIN := Lib.hid FIN
  have FA := Lib.hid FA
  clear hi hi2 hB o2 hw1 hX
  have nwH := World.new_ne w1 _ c0
  have nwX := World.new_ne w1 _ x0
  clear HI2 HB HO2 HW HX
  go_region_law (first
      | (go_simp; go_at_call 21; refine (clock_any C t _ hC.out h0 (by omega)).mono ?_; rintro e w' ⟨rfl, rfl⟩)
      | (refine step_append_lies _ (by rfl) _ _ 35 (by rfl) 0 46 i0 _ 8 80 Try.underlying35 hi0 hz0 hz1 hz2 rfl (by omega) _ _ _ (by rfl) (ownC.alloc _) ⟨w1.heap.size, 0, none⟩ 1 1 (Ev.cs ⟨p, t + 1, 0, ⟨ok, oa, od⟩, 0, ⟨#[]⟩⟩) (by rfl) rfl NEWS.out (ev_one _) (by omega) (by unfold maxLen; omega) (by omega) (by omega) _ rfl ?_; intro g cap w8 hown1 hgrow hat hlt; obtain ⟨q0, q1⟩ := FA.out _ hgrow))
  all_goals
    go_split_ands
    have FF := Lib.hid (FIN.out _ _ _ hown1 hgrow hat)
    clear hgrow hat hown1 FIN FA
    go_wp2_with fail
    go_ret
    exact ⟨ret_int (by omega), _, FF.out.1, FF.out.2.1, FF.out.2.2⟩
end Go.Proofs.Ytmpkcmgdamfaaaa
