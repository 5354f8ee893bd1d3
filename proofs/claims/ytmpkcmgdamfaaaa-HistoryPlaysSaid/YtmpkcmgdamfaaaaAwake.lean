/- The walk of law18.awake. -/
import Derived.Test.YtmpkcmgdamfaaaaBoth
namespace Go.Proofs.Ytmpkcmgdamfaaaa
open Go.RowKit SlRd
set_option linter.unusedVariables false

@[reducible] def oW : Op := ⟨2, 0, ⟨#[97]⟩⟩
@[reducible] def oR : Op := ⟨1, 0, ⟨#[]⟩⟩
def s1 : List Ev × Int := bgE ([], 0) 0 oW
def s2 : List Ev × Int := bgE s1 1 oR
def s3 : List Ev × Int := enE s2 0 0 ⟨#[]⟩
def s4 : List Ev × Int := enE s3 1 0 ⟨#[120]⟩
def evA : Ev := ⟨0, 1, 3, oW, 0, ⟨#[]⟩⟩
def evB : Ev := ⟨1, 2, 4, oR, 0, ⟨#[120]⟩⟩
theorem s4_is : s4 = ([evA, evB], 4) := by decide
theorem of0 : ofB 0 s4.1 = [evA, evB] := by decide
theorem of1 : ofB 1 s4.1 = [] := by decide
theorem open0 : openN s4.1 = 0 := by decide
theorem r1 : bgR ([], 0) = 0 := by decide
theorem r2 : bgR s1 = 1 := by decide
theorem r3 : ends s2.1 0 = true := by decide
theorem r4 : ends s3.1 1 = true := by decide
theorem l1 : s1.1.length ≤ 200 ∧ 0 ≤ s1.2 ∧ s1.2 < 1000 := by decide
theorem l2 : s2.1.length ≤ 200 ∧ 0 ≤ s2.2 ∧ s2.2 < 1000 := by decide
theorem l3 : s3.1.length ≤ 200 ∧ 0 ≤ s3.2 ∧ s3.2 < 1000 := by decide
theorem l4 : s4.1.length ≤ 1000 := by decide

set_option maxRecDepth 100000 in
set_option maxHeartbeats 1600000 in
theorem awake_any (w : World) : Calls Try.prog 6 #[] w fun e w' => e = .returned (.bool true) ∧ Below w.heap.size w w' := by
  go_enter Try.func6, Try.ntmps6
  go_wp2_with fail
  refine (new_any _).mono ?_; rintro e w1 ⟨H, C, rfl, hi, hb, h1, h2⟩
  have O1 : Own w w1 (fun _ => False) H C (.slice none 0 0) ([], 0) := Own.made hi hb h1 h2
  clear hi hb h1 h2
  go_upto_region 6 with fail
  have O2 := (O1.more (.cells #[.int .i64 2, .int .i64 0, .string ⟨#[97]⟩] 31)).more (.cells #[.int .i64 1, .int .i64 0, .string ⟨#[]⟩] 31)
  have bX : Blk ((w1.alloc (.cells #[.int .i64 2, .int .i64 0, .string ⟨#[97]⟩] 31)).alloc (.cells #[.int .i64 1, .int .i64 0, .string ⟨#[]⟩] 31)) w1.heap.size 31 #[.int .i64 2, .int .i64 0, .string ⟨#[97]⟩] := (Below.heap_alloc _ _ _ (by simp)).trans (Blk.new w1 31 _)
  have bY : Blk ((w1.alloc (.cells #[.int .i64 2, .int .i64 0, .string ⟨#[97]⟩] 31)).alloc (.cells #[.int .i64 1, .int .i64 0, .string ⟨#[]⟩] 31)) (w1.heap.size + 1) 31 #[.int .i64 1, .int .i64 0, .string ⟨#[]⟩] := by
    have := Blk.new (w1.alloc (.cells #[.int .i64 2, .int .i64 0, .string ⟨#[97]⟩] 31)) 31 #[.int .i64 1, .int .i64 0, .string ⟨#[]⟩]
    simpa using this
  replace O2 : Own w ((w1.alloc (.cells #[.int .i64 2, .int .i64 0, .string ⟨#[97]⟩] 31)).alloc (.cells #[.int .i64 1, .int .i64 0, .string ⟨#[]⟩] 31)) (fun i => i = w1.heap.size ∨ i = w1.heap.size + 1) H C (.slice none 0 0) ([], 0) := O2.less (by
    rintro i (rfl | rfl)
    · exact .inl (.inr rfl)
    · right; simp)
  generalize (w1.alloc (.cells #[.int .i64 2, .int .i64 0, .string ⟨#[97]⟩] 31)).alloc (.cells #[.int .i64 1, .int .i64 0, .string ⟨#[]⟩] 31) = w2 at O2 bX bY ⊢
  generalize w1.heap.size + 1 = Y at O2 bY ⊢
  generalize w1.heap.size = X at O2 bX ⊢
  clear O1
  have x0 := bX.cell 0; have x1 := bX.cell 1; have x2 := bX.cell 2
  have y0 := bY.cell 0; have y1 := bY.cell 1; have y2 := bY.cell 2
  simp only [List.getElem?_toArray, List.getElem?_cons_zero, List.getElem?_cons_succ] at x0 x1 x2 y0 y1 y2
  go_wp2_with fail
  refine (begin_all O2.i (by simp) (by simp) (by simp) 0 oW).mono ?_; rintro e w3 ⟨rfl, hp⟩
  rw [r1]
  obtain ⟨v3, O3, T3⟩ := O2.next hp
  have bX3 := O2.blk T3 bX (.inl rfl)
  have bY3 := O2.blk T3 bY (.inr rfl)
  clear hp T3 bX bY O2 x0 x1 x2 y0 y1 y2
  have x0 := bX3.cell 0; have x1 := bX3.cell 1; have x2 := bX3.cell 2
  have y0 := bY3.cell 0; have y1 := bY3.cell 1; have y2 := bY3.cell 2
  simp only [List.getElem?_toArray, List.getElem?_cons_zero, List.getElem?_cons_succ] at x0 x1 x2 y0 y1 y2
  go_wp2_with fail
  refine (begin_all (s := s1) O3.i l1.1 l1.2.1 l1.2.2 1 oR).mono ?_; rintro e w4 ⟨rfl, hp⟩
  rw [r2]
  obtain ⟨v4, O4, T4⟩ := O3.next hp
  have bX4 := O3.blk T4 bX3 (.inl rfl)
  have bY4 := O3.blk T4 bY3 (.inr rfl)
  clear hp T4 bX3 bY3 O3 x0 x1 x2 y0 y1 y2
  go_wp2_with fail
  refine (end_all (s := s2) O4.i l2.1 l2.2.1 l2.2.2 0 0 ⟨#[]⟩ (by decide)).mono ?_; rintro e w5 ⟨rfl, hp⟩
  rw [r3]
  obtain ⟨v5, O5, T5⟩ := O4.next hp
  have bX5 := O4.blk T5 bX4 (.inl rfl)
  have bY5 := O4.blk T5 bY4 (.inr rfl)
  clear hp T5 bX4 bY4 O4
  go_wp2_with fail
  refine (end_all (s := s3) O5.i l3.1 l3.2.1 l3.2.2 1 0 ⟨#[120]⟩ (by decide)).mono ?_; rintro e w6 ⟨rfl, hp⟩
  rw [r4]
  obtain ⟨v6, O6, T6⟩ := O5.next hp
  have bX6 := O5.blk T6 bX5 (.inl rfl)
  have bY6 := O5.blk T6 bY5 (.inr rfl)
  clear hp T6 bX5 bY5 O5
  replace O6 : Own w w6 (fun i => i = X ∨ i = Y) H C v6 s4 := O6
  go_wp2_with fail
  refine (of_any O6.i l4 0).mono ?_; rintro e w7 ⟨vo, rfl, ho, hb7⟩
  rw [of0] at ho
  have O7 := O6.below hb7
  have rd7 := Rd.of_owns ho
  have bX7 : Blk w7 X 31 #[.int .i64 2, .int .i64 0, .string ⟨#[97]⟩] := (hb7.block X bX6.lt).trans bX6
  have bY7 : Blk w7 Y 31 #[.int .i64 1, .int .i64 0, .string ⟨#[]⟩] := (hb7.block Y bY6.lt).trans bY6
  clear ho hb7 bX6 bY6 O6
  have x0 := bX7.cell 0; have x1 := bX7.cell 1; have x2 := bX7.cell 2
  have y0 := bY7.cell 0; have y1 := bY7.cell 1; have y2 := bY7.cell 2
  simp only [List.getElem?_toArray, List.getElem?_cons_zero, List.getElem?_cons_succ] at x0 x1 x2 y0 y1 y2
  go_wp2_with fail
  have rl := Rd.lit (W := w7) (evA.cs ++ evB.cs).toArray 46 2 8 rfl
  have hbl : Below w7.heap.size w7 (w7.alloc (.cells (evA.cs ++ evB.cs).toArray 46)) := (Below.refl _ _).alloc (Nat.le_refl _) _
  have sm := same_any [evA, evB] [evA, evB] _ _ _ (rd7.below hbl) rl (by simp) (by simp)
  rw [decide_eq_true rfl] at sm
  refine sm.mono ?_; rintro e w8 ⟨rfl, hb8⟩
  have O8 := O7.below (below_then hbl hb8)
  clear rl hbl sm hb8 O7 rd7 bX7 bY7 x0 x1 x2 y0 y1 y2
  go_wp2_with fail
  refine (of_any O8.i l4 1).mono ?_; rintro e w9 ⟨vo, rfl, ho, hb9⟩
  rw [of1] at ho
  obtain ⟨a9, c9, rfl⟩ : ∃ a c, vo = .slice a 0 c := by obtain ⟨_, a, c, hv, _⟩ := Rd.of_owns ho; exact ⟨a, c, hv⟩
  have O9 := O8.below hb9
  clear ho hb9 O8
  go_wp2_with fail
  refine (open_any O9.i l4).mono ?_; rintro e w10 ⟨rfl, hb10⟩
  rw [open0]
  have O10 := O9.below hb10
  go_wp2_with fail
  go_ret
  exact ⟨rfl, O10.b⟩
end Go.Proofs.Ytmpkcmgdamfaaaa
