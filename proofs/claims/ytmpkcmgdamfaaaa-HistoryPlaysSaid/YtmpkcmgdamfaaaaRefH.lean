/- The document's history in memory: New, Open, Of, Events. -/
import Derived.Test.YtmpkcmgdamfaaaaEvents
namespace Go.Proofs.Ytmpkcmgdamfaaaa
open Go.RowKit SlRd
set_option linter.unusedVariables false

/-- the document's history in memory: R is its struct's block, v the row of its events -/
structure RI (W : World) (R : Nat) (v : Value) (evs : List Ev) (t : Int) : Prop where
  h : Blk W R 37 #[v, .int .i64 t]
  own : W.ownsRow 0 46 8 v evs.length (evs.flatMap Ev.cs)
def RS (R : Nat) (v : Value) : Nat → Prop := fun i => i = R ∨ v.ownBlock = some i
section
variable {W W' : World} {R : Nat} {v : Value} {evs : List Ev} {t : Int}
theorem RI.below (h : RI W R v evs t) (hb : Below W.heap.size W W') : RI W' R v evs t := ⟨(hb.block R h.h.lt).trans h.h, owns_below h.own hb⟩
theorem RI.touch {S : Nat → Prop} (h : RI W R v evs t) (ht : SlRd.Touch S W W') (hd : ∀ i, RS R v i → ¬ S i) : RI W' R v evs t :=
  ⟨ht.blk h.h (hd R (.inl rfl)), ht.owns h.own fun i hi => hd i (.inr hi)⟩
theorem RI.lt (h : RI W R v evs t) : ∀ i, RS R v i → i < W.heap.size := by
  rintro i (rfl | hi)
  · exact h.h.lt
  · exact (owns_lt h.own i hi).2
theorem RI.form (h : RI W R v evs t) : ∃ a c, v = .slice a evs.length c := by
  rcases h.own.2 with ⟨rfl, h0⟩ | ⟨g, cap, cur, rfl, _⟩
  · exact ⟨none, 0, by rw [h0]⟩
  · exact ⟨_, _, rfl⟩
end

theorem refNew_any (w : World) : Calls Try.prog 8 #[] w fun e w' => ∃ R, e = .returned (.pointer (some ⟨R, 0, none⟩)) ∧ RI w' R (.slice none 0 0) [] 0 ∧ Below w.heap.size w w' ∧ w.heap.size ≤ R := by
  go_enter Try.func8, Try.ntmps8
  go_wp2_with fail
  go_ret
  exact ⟨w.heap.size, rfl, ⟨Blk.new w 37 _, World.ownsRow_nil _ _ _ _⟩, (Below.refl _ _).alloc (Nat.le_refl _) _, Nat.le_refl _⟩

set_option maxHeartbeats 800000 in
theorem refOpen_any {W : World} {R : Nat} {v : Value} {evs : List Ev} {t : Int} (hi : RI W R v evs t) (hl : evs.length ≤ 1000) :
    Calls Try.prog 15 #[.pointer (some ⟨R, 0, none⟩)] W fun e w' => e = .returned (.int .i64 (openN evs)) ∧ W = w' := by
  obtain ⟨a, c, rfl⟩ := hi.form
  have h0 := hi.h.cell 0
  simp only [List.getElem?_toArray, List.getElem?_cons_zero] at h0
  have hr : Rd W 8 (.slice a evs.length c) evs.length (evs.flatMap Ev.cs) := Rd.of_owns hi.own
  clear hi
  go_enter Try.func15, Try.ntmps15
  go_wp2_with fail
  go_loop [3, 4] (fun n i => ∃ k : Nat, k ≤ evs.length ∧ i = .int .i64 k ∧ n = .int .i64 (openN (evs.take k))) (fun _ i => evs.length - (intOf i).toNat)
  case atStart => exact ⟨0, Nat.zero_le _, rfl, rfl⟩
  case round =>
    obtain ⟨k, hk, rfl, rfl⟩ := hrel
    have hn1 : openN (evs.take k) ≤ k := Nat.le_trans (List.length_filter_le _ _) (List.length_take_le _ _)
    by_cases hlt : k < evs.length
    · obtain ⟨b, o, rfl, hb1, hc1⟩ := Rd.atk Ev.cs (fun _ => rfl) hr rfl k hlt
      have hs := Lib.hid (openN_succ evs k hlt)
      generalize evs[k] = x at hc1 hs
      have p2 := hc1 2 (by omega)
      simp only [Ev.cs, List.getElem?_cons_zero, List.getElem?_cons_succ] at p2
      clear hc1 hr
      cases hz : (x.end_ == 0)
      · have HZ := Lib.hid hz
        go_wp2_with fail
        go_round
        case rel => exact ⟨k + 1, by omega, by go_num, by rw [hs.out, HZ.out]; rfl⟩
        case measure => simp [intOf]; omega
      · have HZ := Lib.hid hz
        go_wp2_with fail
        go_round
        case rel => exact ⟨k + 1, by omega, by go_num, by rw [hs.out, HZ.out]; go_num⟩
        case measure => simp [intOf]; omega
    · obtain rfl : k = evs.length := by omega
      go_wp2_with fail
      go_ret
      exact ⟨by first | rfl | (rw [List.take_length]; rfl), rfl⟩

theorem refEvents_any {W : World} {R : Nat} {v : Value} {evs : List Ev} {t : Int} (hi : RI W R v evs t) (hl : evs.length ≤ 1000) :
    Calls Try.prog 20 #[.pointer (some ⟨R, 0, none⟩)] W fun e w' => ∃ v', e = .returned v' ∧ Rd w' 8 v' evs.length (evs.flatMap Ev.cs) ∧ Below W.heap.size W w' := by
  obtain ⟨i0, hi0, hz0, hz1, hz2⟩ := info_parts info46
  have h0 := hi.h.cell 0
  simp only [List.getElem?_toArray, List.getElem?_cons_zero] at h0
  have hown := hi.own
  clear hi
  rcases hown.2 with ⟨rfl, hn⟩ | ⟨g, cap, cur, rfl, hb, hh, hrest⟩
  · have hn' : evs = [] := by simpa using hn
    subst hn'
    go_enter Try.func20, Try.ntmps20
    go_wp2_with fail
    go_ret
    exact ⟨_, rfl, Rd.nil _ _, Below.refl _ _⟩
  · have hr := Rd.of_owns hown
    have hlt : g < W.heap.size := (Array.getElem?_eq_some_iff.1 hh).1
    have hcell := fun j u hu => hown.cells (g := g) rfl j u hu
    have hlen := hown.1
    clear hh hrest
    go_enter Try.func20, Try.ntmps20
    go_wp2_with (at_builtin; refine wpList_append_own _ rfl _ _ 35 rfl W.heap.size 46 i0 _ 8 80 Try.underlying35 hi0 hz0 hz1 hz2 rfl (by decide) _ _ _ rfl (World.ownsRow_nil W W.heap.size 46 8) ⟨g, 0, none⟩ evs.length cap (evs.flatMap Ev.cs) rfl hlen ?c1 ?c2 ?c3 ?c4 ?c5 ?_)
    case c1 => exact fun j u hu => hcell j u hu
    case c2 =>
      intro u hu
      obtain ⟨x, _, hx⟩ := List.mem_flatMap.1 hu
      exact ev_one x u hx
    case c3 => unfold maxLen; omega
    case c4 => omega
    case c5 => simp
    · intro v' w8 hown' hgrow _
      have HO := Rd.of_owns hown'
      have HB := Lib.hid ((Below.refl W.heap.size W).grown hgrow (by simp) (fun q hq => by cases hq))
      go_wp2_with fail
      go_ret
      exact ⟨_, rfl, by simpa using HO, HB.out⟩

set_option maxRecDepth 100000 in
set_option maxHeartbeats 1600000 in
theorem refOf_any {W : World} {R : Nat} {v : Value} {evs : List Ev} {t : Int} (hi : RI W R v evs t) (hl : evs.length ≤ 1000) (blk : Int) :
    Calls Try.prog 18 #[.pointer (some ⟨R, 0, none⟩), .int .i64 blk] W fun e w' => ∃ v', e = .returned v' ∧ w'.ownsRow W.heap.size 46 8 v' (ofB blk evs).length ((ofB blk evs).flatMap Ev.cs) ∧ Below W.heap.size W w' := by
  obtain ⟨a, c, rfl⟩ := hi.form
  have h0 := hi.h.cell 0
  have hRl := hi.h.lt
  simp only [List.getElem?_toArray, List.getElem?_cons_zero] at h0
  have hr : Rd W 8 (.slice a evs.length c) evs.length (evs.flatMap Ev.cs) := Rd.of_owns hi.own
  obtain ⟨i0, hi0, hz0, hz1, hz2⟩ := info_parts info46
  clear hi
  go_enter Try.func18, Try.ntmps18
  go_wp2_with fail
  go_loopw [5, 6] (fun v i wr => ∃ k : Nat, k ≤ evs.length ∧ i = .int .i64 k ∧ wr.ownsRow W.heap.size 46 8 v (ofB blk (evs.take k)).length ((ofB blk (evs.take k)).flatMap Ev.cs) ∧ Below W.heap.size W wr) (fun _ i _ => evs.length - (intOf i).toNat)
  case atStart => exact ⟨0, Nat.zero_le _, rfl, World.ownsRow_nil _ _ _ _, Below.refl _ _⟩
  case round =>
    obtain ⟨k, hk, rfl, hown, hbl⟩ := hrel
    have hn1 : (ofB blk (evs.take k)).length ≤ k := Nat.le_trans (List.length_filter_le _ _) (List.length_take_le _ _)
    have h0w : wr.cell? ⟨R, 0, none⟩ = some (.slice a evs.length c) := (hbl.cell (p := ⟨R, 0, none⟩) hRl).trans h0
    by_cases hlt : k < evs.length
    · obtain ⟨b, o, rfl, hb1, hc1⟩ := Rd.atk Ev.cs (fun _ => rfl) (hr.below hbl) rfl k hlt
      have hs := Lib.hid (ofB_succ blk evs k hlt)
      generalize evs[k] = x at hc1 hs
      have HC := Lib.hid (fun W => refCounts_any x W)
      obtain ⟨xp, xb, xe, ⟨xk, xa, xd⟩, xr, xt⟩ := x
      have p0 := hc1 0 (by omega); have p1 := hc1 1 (by omega); have p2 := hc1 2 (by omega); have p3 := hc1 3 (by omega); have p4 := hc1 4 (by omega)
      have p5 := hc1 5 (by omega); have p6 := hc1 6 (by omega); have p7 := hc1 7 (by omega)
      simp only [Ev.cs, List.getElem?_cons_zero, List.getElem?_cons_succ, Nat.add_zero] at p0 p1 p2 p3 p4 p5 p6 p7
      have hbR : Hid (R < wr.heap.size) := Lib.hid (Nat.lt_of_lt_of_le hRl hbl.size)
      generalize hq : cnt ⟨xp, xb, xe, ⟨xk, xa, xd⟩, xr, xt⟩ = q at HC hs
      clear hq hr
      go_wp2_with fail
      refine (HC.out _).mono ?_; rintro e w5 ⟨rfl, hb5⟩
      have q0 : ∀ j, j < 8 → w5.cell? ⟨b, o + k * 8 + j, none⟩ = (Ev.cs ⟨xp, xb, xe, ⟨xk, xa, xd⟩, xr, xt⟩)[j]? := fun j hj => by rw [hb5.cell (p := ⟨b, o + k * 8 + j, none⟩) hb1]; exact hc1 j hj
      have h05 := (hb5.cell (p := ⟨R, 0, none⟩) hbR.out).trans h0w
      have hb45 := below_then hbl hb5
      have ho5 := owns_below hown hb5
      clear p0 p1 p2 p3 p4 p5 p6 p7 hc1 hb5 h0w hown hb1 HC
      have p0 := q0 0 (by omega); have p1 := q0 1 (by omega); have p2 := q0 2 (by omega); have p3 := q0 3 (by omega); have p4 := q0 4 (by omega)
      have p5 := q0 5 (by omega); have p6 := q0 6 (by omega); have p7 := q0 7 (by omega)
      simp only [Ev.cs, List.getElem?_cons_zero, List.getElem?_cons_succ, Nat.add_zero] at p0 p1 p2 p3 p4 p5 p6 p7
      clear q0
      cases q
      · simp only [Bool.and_false, Bool.false_eq_true, if_false] at hs
        go_wp2_with fail
        go_roundw
        case rel => exact ⟨k + 1, by omega, by go_num, by rw [hs.out]; exact ho5, hb45⟩
        case measure => simp [intOf]; omega
      · by_cases hat : xa = blk
        · subst hat
          simp only [BEq.rfl, Bool.and_true, if_true] at hs
          go_wp2_with (at_builtin; refine wpList_append_own _ rfl _ _ 35 rfl W.heap.size 46 i0 _ 8 80 Try.underlying35 hi0 hz0 hz1 hz2 rfl (by decide) _ _ _ rfl (ho5.alloc _) ⟨w5.heap.size, 0, none⟩ 1 1 (Ev.cs ⟨xp, xb, xe, ⟨xk, xa, xd⟩, xr, xt⟩) rfl rfl ?c1 ?c2 ?c3 ?c4 ?c5 ?_)
          case c1 =>
            intro j u hj
            rw [Go.WideShapes.add_plain, Nat.zero_add, World.cell?_alloc_at _ _ _ _ rfl]
            simpa using hj
          case c2 => exact ev_one _
          case c3 => unfold maxLen; omega
          case c4 => omega
          case c5 => have := hb45.size; simp; omega
          · intro v' w8 hown' hgrow _
            have HO : Hid (w8.ownsRow W.heap.size 46 8 v' (ofB xa (evs.take (k + 1))).length ((ofB xa (evs.take (k + 1))).flatMap Ev.cs)) := by
              show World.ownsRow _ _ _ _ _ _ _
              rw [hs.out, List.length_append, List.flatMap_append, List.flatMap_singleton]
              exact hown'
            have HB := Lib.hid ((below_al hb45 _).grown hgrow (by have := hb45.size; simp; omega) (fun q hq => (owns_lt ho5 q hq).1))
            clear hown' hgrow ho5 hb45
            go_wp2_with fail
            go_roundw
            case rel => exact ⟨k + 1, by omega, by go_num, HO.out, HB.out⟩
            case measure => simp [intOf]; omega
        · have e1 : (xa == blk) = false := by simpa using hat
          have HS := hs.out
          simp only [e1, Bool.false_and, Bool.false_eq_true, if_false] at HS
          have HS2 := Lib.hid HS
          clear hs HS hat
          go_wp2_with fail
          go_roundw
          case rel => exact ⟨k + 1, by omega, by go_num, by rw [HS2.out]; exact ho5, hb45⟩
          case measure => simp [intOf]; omega
    · obtain rfl : k = evs.length := by omega
      rw [List.take_length] at hown
      go_wp2_with fail
      go_ret
      exact ⟨_, rfl, hown, hbl⟩
end Go.Proofs.Ytmpkcmgdamfaaaa
