/- A history in memory, and what its calls that only read leave: New, the clock, Open, Of, Events. -/
import Derived.Test.YtmpkcmgdamfaaaaSame
import Derived.Laws.OwnMore
import Derived.Deep.RegionHeld3
namespace Go.Proofs.Ytmpkcmgdamfaaaa
open Go.RowKit SlRd
set_option linter.unusedVariables false

@[reducible] def nextFn (C : Nat) : Value := .func (.func 21) #[] #[.pointer (some ⟨C, 0, none⟩)]
/-- a history in memory: H is its struct's block, C the clock's, v the row of its events -/
structure HI (W : World) (H C : Nat) (v : Value) (evs : List Ev) (t : Int) : Prop where
  h : Blk W H 49 #[v, nextFn C]
  c : Blk W C 3 #[.int .i64 t]
  own : W.ownsRow 0 46 8 v evs.length (evs.flatMap Ev.cs)
/-- the blocks of a history -/
def HS (H C : Nat) (v : Value) : Nat → Prop := fun i => i = H ∨ i = C ∨ v.ownBlock = some i
section
variable {W W' : World} {H C : Nat} {v : Value} {evs : List Ev} {t : Int}
theorem HI.below (h : HI W H C v evs t) (hb : Below W.heap.size W W') : HI W' H C v evs t :=
  ⟨(hb.block H h.h.lt).trans h.h, (hb.block C h.c.lt).trans h.c, owns_below h.own hb⟩
theorem HI.touch {S : Nat → Prop} (h : HI W H C v evs t) (ht : SlRd.Touch S W W') (hd : ∀ i, HS H C v i → ¬ S i) : HI W' H C v evs t :=
  ⟨ht.blk h.h (hd H (.inl rfl)), ht.blk h.c (hd C (.inr (.inl rfl))), ht.owns h.own fun i hi => hd i (.inr (.inr hi))⟩
theorem HI.lt (h : HI W H C v evs t) : ∀ i, HS H C v i → i < W.heap.size := by
  rintro i (rfl | rfl | hi)
  · exact h.h.lt
  · exact h.c.lt
  · exact (owns_lt h.own i hi).2
theorem HI.form (h : HI W H C v evs t) : ∃ a c, v = .slice a evs.length c := by
  rcases h.own.2 with ⟨rfl, h0⟩ | ⟨g, cap, cur, rfl, _⟩
  · exact ⟨none, 0, by rw [h0]⟩
  · exact ⟨_, _, rfl⟩
end

theorem new_any (w : World) : Calls Try.prog 7 #[] w fun e w' => ∃ H C, e = .returned (.pointer (some ⟨H, 0, none⟩)) ∧ HI w' H C (.slice none 0 0) [] 0 ∧ Below w.heap.size w w' ∧ w.heap.size ≤ H ∧ w.heap.size ≤ C := by
  go_enter Try.func7, Try.ntmps7
  go_wp2_with fail
  go_ret
  refine ⟨w.heap.size + 1, w.heap.size, rfl, ?_, ?_, by omega, by omega⟩
  · refine ⟨?_, ?_, World.ownsRow_nil _ _ _ _⟩
    · have := Blk.new (w.alloc (.cells #[.int .i64 0] 3)) 49 #[.slice none 0 0, nextFn w.heap.size]
      simpa using this
    · exact (Below.heap_alloc _ _ _ (by simp)).trans (Blk.new w 3 #[.int .i64 0])
  · exact ((Below.refl _ _).alloc (Nat.le_refl _) _).alloc (by simp) _

theorem clock_any (C : Nat) (t : Int) (w : World) (h : Blk w C 3 #[.int .i64 t]) (h0 : 0 ≤ t) (h1 : t ≤ 1000000) :
    Calls Try.prog 21 #[.pointer (some ⟨C, 0, none⟩)] w fun e w' => e = .returned (.int .i64 (t + 1)) ∧ w.setCell ⟨C, 0, none⟩ (.int .i64 (t + 1)) = w' := by
  have c0 := h.cell 0
  have f0 := h.frozen 0
  simp only [List.getElem?_toArray, List.getElem?_cons_zero] at c0
  go_enter Try.func21, Try.ntmps21
  go_wp2_with fail
  go_ret
  exact ⟨rfl, rfl⟩

def openN (evs : List Ev) : Nat := (evs.filter fun x => x.end_ == 0).length
def ofB (b : Int) (evs : List Ev) : List Ev := evs.filter fun x => x.op.at_ == b && cnt x


theorem take_filter_succ {α : Type} (p : α → Bool) (l : List α) (k : Nat) (h : k < l.length) : (l.take (k + 1)).filter p = if p l[k] then (l.take k).filter p ++ [l[k]] else (l.take k).filter p := by
  rw [List.take_succ_eq_append_getElem h, List.filter_append]
  by_cases hp : p l[k] <;> simp [hp]
theorem below_al {w w' : World} (h : Below w.heap.size w w') (o : Obj) : Below w.heap.size w (w'.alloc o) := h.alloc h.size o

theorem openN_succ (evs : List Ev) (k : Nat) (h : k < evs.length) : openN (evs.take (k + 1)) = if evs[k].end_ == 0 then openN (evs.take k) + 1 else openN (evs.take k) := by
  unfold openN
  rw [take_filter_succ _ _ _ h]
  split <;> simp_all
set_option maxHeartbeats 800000 in
theorem open_any {W : World} {H C : Nat} {v : Value} {evs : List Ev} {t : Int} (hi : HI W H C v evs t) (hl : evs.length ≤ 1000) :
    Calls Try.prog 14 #[.pointer (some ⟨H, 0, none⟩)] W fun e w' => e = .returned (.int .i64 (openN evs)) ∧ Below W.heap.size W w' := by
  obtain ⟨a, c, rfl⟩ := hi.form
  have h0 := hi.h.cell 0
  simp only [List.getElem?_toArray, List.getElem?_cons_zero] at h0
  have hr : Rd W 8 (.slice a evs.length c) evs.length (evs.flatMap Ev.cs) := Rd.of_owns hi.own
  clear hi
  go_enter Try.func14, Try.ntmps14
  go_wp2_with fail
  go_loopw [3, 11] (fun n i wr => ∃ k : Nat, k ≤ evs.length ∧ i = .int .i64 k ∧ n = .int .i64 (openN (evs.take k)) ∧ Below W.heap.size W wr) (fun _ i _ => evs.length - (intOf i).toNat)
  case atStart => exact ⟨0, Nat.zero_le _, rfl, rfl, Below.refl _ _⟩
  case round =>
    obtain ⟨k, hk, rfl, rfl, hbl⟩ := hrel
    have hn1 : openN (evs.take k) ≤ k := Nat.le_trans (List.length_filter_le _ _) (List.length_take_le _ _)
    by_cases hlt : k < evs.length
    · obtain ⟨b, o, rfl, hb1, hc1⟩ := Rd.atk Ev.cs (fun _ => rfl) (hr.below hbl) rfl k hlt
      have hs := Lib.hid (openN_succ evs k hlt)
      generalize evs[k] = x at hc1 hs
      have p0 := hc1 0 (by omega); have p1 := hc1 1 (by omega); have p2 := hc1 2 (by omega); have p3 := hc1 3 (by omega); have p4 := hc1 4 (by omega)
      have p5 := hc1 5 (by omega); have p6 := hc1 6 (by omega); have p7 := hc1 7 (by omega)
      simp only [Ev.cs, List.getElem?_cons_zero, List.getElem?_cons_succ, Nat.add_zero] at p0 p1 p2 p3 p4 p5 p6 p7
      clear hc1 hr
      cases hz : (x.end_ == 0)
      · have HZ := Lib.hid hz
        go_wp2_with fail
        go_roundw
        case rel => exact ⟨k + 1, by omega, by go_num, by rw [hs.out, HZ.out]; rfl, below_al hbl _⟩
        case measure => simp [intOf]; omega
      · have HZ := Lib.hid hz
        go_wp2_with fail
        go_roundw
        case rel => exact ⟨k + 1, by omega, by go_num, by rw [hs.out, HZ.out]; go_num, below_al hbl _⟩
        case measure => simp [intOf]; omega
    · obtain rfl : k = evs.length := by omega
      go_wp2_with fail
      go_ret
      exact ⟨by rw [List.take_length]; rfl, hbl⟩

theorem ofB_succ (b : Int) (evs : List Ev) (k : Nat) (h : k < evs.length) : ofB b (evs.take (k + 1)) = if evs[k].op.at_ == b && cnt evs[k] then ofB b (evs.take k) ++ [evs[k]] else ofB b (evs.take k) := take_filter_succ _ _ _ h
theorem info46 : (Try.prog.info? 46).map (fun i => (i.zero, i.size, i.bytes)) = some (some (.agg #[.int .i64 0, .int .i64 0, .int .i64 0, .int .i64 0, .int .i64 0, .string ByteArray.empty, .int .i64 0, .string ByteArray.empty]), 8, 80) := by kernel_rfl
theorem ev_one (x : Ev) : ∀ u ∈ x.cs, u.oneCell' = true := by
  intro u hu
  simp only [Ev.cs, List.mem_cons, List.not_mem_nil, or_false] at hu
  rcases hu with rfl | rfl | rfl | rfl | rfl | rfl | rfl | rfl <;> rfl

set_option maxRecDepth 100000 in
set_option maxHeartbeats 1600000 in
theorem of_any {W : World} {H C : Nat} {v : Value} {evs : List Ev} {t : Int} (hi : HI W H C v evs t) (hl : evs.length ≤ 1000) (blk : Int) :
    Calls Try.prog 17 #[.pointer (some ⟨H, 0, none⟩), .int .i64 blk] W fun e w' => ∃ v', e = .returned v' ∧ w'.ownsRow W.heap.size 46 8 v' (ofB blk evs).length ((ofB blk evs).flatMap Ev.cs) ∧ Below W.heap.size W w' := by
  obtain ⟨a, c, rfl⟩ := hi.form
  have h0 := hi.h.cell 0
  simp only [List.getElem?_toArray, List.getElem?_cons_zero] at h0
  have hr : Rd W 8 (.slice a evs.length c) evs.length (evs.flatMap Ev.cs) := Rd.of_owns hi.own
  obtain ⟨i0, hi0, hz0, hz1, hz2⟩ := info_parts info46
  clear hi
  go_enter Try.func17, Try.ntmps17
  go_wp2_with fail
  go_loopw [5, 13] (fun v i wr => ∃ k : Nat, k ≤ evs.length ∧ i = .int .i64 k ∧ wr.ownsRow W.heap.size 46 8 v (ofB blk (evs.take k)).length ((ofB blk (evs.take k)).flatMap Ev.cs) ∧ Below W.heap.size W wr) (fun _ i _ => evs.length - (intOf i).toNat)
  case atStart => exact ⟨0, Nat.zero_le _, rfl, World.ownsRow_nil _ _ _ _, Below.refl _ _⟩
  case round =>
    obtain ⟨k, hk, rfl, hown, hbl⟩ := hrel
    have hn1 : (ofB blk (evs.take k)).length ≤ k := Nat.le_trans (List.length_filter_le _ _) (List.length_take_le _ _)
    by_cases hlt : k < evs.length
    · obtain ⟨b, o, rfl, hb1, hc1⟩ := Rd.atk Ev.cs (fun _ => rfl) (hr.below hbl) rfl k hlt
      have hs := Lib.hid (ofB_succ blk evs k hlt)
      generalize evs[k] = x at hc1 hs
      have p0 := hc1 0 (by omega); have p1 := hc1 1 (by omega); have p2 := hc1 2 (by omega); have p3 := hc1 3 (by omega); have p4 := hc1 4 (by omega)
      have p5 := hc1 5 (by omega); have p6 := hc1 6 (by omega); have p7 := hc1 7 (by omega)
      simp only [Ev.cs, List.getElem?_cons_zero, List.getElem?_cons_succ, Nat.add_zero] at p0 p1 p2 p3 p4 p5 p6 p7
      clear hc1 hr
      obtain ⟨xp, xb, xe, ⟨xk, xa, xd⟩, xr, xt⟩ := x
      have hz1' := hbl.size
      by_cases hat : xa = blk
      · subst hat
        have HC := Lib.hid (fun W => counts_any ⟨xp, xb, xe, ⟨xk, xa, xd⟩, xr, xt⟩ W)
        simp only [BEq.rfl, Bool.true_and] at hs
        generalize cnt ⟨xp, xb, xe, ⟨xk, xa, xd⟩, xr, xt⟩ = q at HC hs
        go_upto_region 5 with fail
        have N4 : Blk (wr.alloc (.cells #[.int .i64 xp, .int .i64 xb, .int .i64 xe, .int .i64 xk, .int .i64 xa, .string xd, .int .i64 xr, .string xt] 46)) wr.heap.size 46 #[.int .i64 xp, .int .i64 xb, .int .i64 xe, .int .i64 xk, .int .i64 xa, .string xd, .int .i64 xr, .string xt] := Blk.new _ _ _
        have hb4 := below_al hbl (.cells #[.int .i64 xp, .int .i64 xb, .int .i64 xe, .int .i64 xk, .int .i64 xa, .string xd, .int .i64 xr, .string xt] 46)
        have ho4 := hown.alloc (.cells #[.int .i64 xp, .int .i64 xb, .int .i64 xe, .int .i64 xk, .int .i64 xa, .string xd, .int .i64 xr, .string xt] 46)
        generalize wr.alloc (.cells #[.int .i64 xp, .int .i64 xb, .int .i64 xe, .int .i64 xk, .int .i64 xa, .string xd, .int .i64 xr, .string xt] 46) = w4 at N4 hb4 ho4 ⊢
        generalize wr.heap.size = X at N4 ⊢
        clear hown hbl p0 p1 p2 p3 p4 p5 p6 p7 hb1 hz1'
        have p0 := N4.cell 0; have p1 := N4.cell 1; have p2 := N4.cell 2; have p3 := N4.cell 3; have p4 := N4.cell 4; have p5 := N4.cell 5; have p6 := N4.cell 6; have p7 := N4.cell 7
        simp only [List.getElem?_toArray, List.getElem?_cons_zero, List.getElem?_cons_succ] at p0 p1 p2 p3 p4 p5 p6 p7
        go_wp2_with fail
        refine (HC.out _).mono ?_; rintro e w5 ⟨rfl, hb5⟩
        have N5 : Blk w5 X 46 #[.int .i64 xp, .int .i64 xb, .int .i64 xe, .int .i64 xk, .int .i64 xa, .string xd, .int .i64 xr, .string xt] := (hb5.block X N4.lt).trans N4
        have hb45 := below_then hb4 hb5
        have ho5 := owns_below ho4 hb5
        clear hb5 hb4 ho4 N4 p0 p1 p2 p3 p4 p5 p6 p7 HC
        have p0 := N5.cell 0; have p1 := N5.cell 1; have p2 := N5.cell 2; have p3 := N5.cell 3; have p4 := N5.cell 4; have p5 := N5.cell 5; have p6 := N5.cell 6; have p7 := N5.cell 7
        simp only [List.getElem?_toArray, List.getElem?_cons_zero, List.getElem?_cons_succ] at p0 p1 p2 p3 p4 p5 p6 p7
        cases q
        · simp only [Bool.false_eq_true, if_false] at hs
          go_wp2_with fail
          go_roundw
          case rel => exact ⟨k + 1, by omega, by go_num, by rw [hs.out]; exact ho5, hb45⟩
          case measure => simp [intOf]; omega
        · simp only [if_true] at hs
          go_wp2_with (at_builtin; refine wpList_append_own _ rfl _ _ 35 rfl W.heap.size 46 i0 _ 8 80 Try.underlying35 hi0 hz0 hz1 hz2 rfl (by decide) _ _ _ rfl (ho5.alloc _) ⟨w5.heap.size, 0, none⟩ 1 1 (Ev.cs ⟨xp, xb, xe, ⟨xk, xa, xd⟩, xr, xt⟩) rfl rfl ?c1 ?c2 ?c3 ?c4 ?c5 ?_)
          case c1 =>
            intro j u hj
            rw [Go.WideShapes.add_plain, Nat.zero_add, World.cell?_alloc_at _ _ _ _ rfl]
            simpa using hj
          case c2 => exact ev_one _
          case c3 => unfold maxLen; omega
          case c4 => omega
          case c5 => have := hb45.size; simp; omega
          · intro v' w8 hown' hgrow _
            have HO : Hid (w8.ownsRow W.heap.size 46 8 v' (ofB xa (evs.take (k + 1))).length ((ofB xa (evs.take (k + 1))).flatMap Ev.cs)) := by
              show World.ownsRow _ _ _ _ _ _ _
              rw [hs.out, List.length_append, List.flatMap_append, List.flatMap_singleton]
              exact hown'
            have HB := Lib.hid ((below_al hb45 _).grown hgrow (by have := hb45.size; simp; omega) (fun q hq => (owns_lt ho5 q hq).1))
            clear hown' hgrow ho5 hb45
            go_wp2_with fail
            go_roundw
            case rel => exact ⟨k + 1, by omega, by go_num, HO.out, HB.out⟩
            case measure => simp [intOf]; omega
      · have e1 : (xa == blk) = false := by simpa using hat
        have HS := hs.out
        simp only [e1, Bool.false_and, Bool.false_eq_true, if_false] at HS
        have HS2 := Lib.hid HS
        clear hs HS hat
        go_wp2_with fail
        go_roundw
        case rel => exact ⟨k + 1, by omega, by go_num, by rw [HS2.out]; exact hown.alloc _, below_al hbl _⟩
        case measure => simp [intOf]; omega
    · obtain rfl : k = evs.length := by omega
      rw [List.take_length] at hown
      go_wp2_with fail
      go_ret
      exact ⟨_, rfl, hown, hbl⟩
end Go.Proofs.Ytmpkcmgdamfaaaa
