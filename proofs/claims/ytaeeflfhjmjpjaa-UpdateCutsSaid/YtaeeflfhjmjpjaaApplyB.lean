/- The walk of the document's layer 9, Apply, at asks to prepare and to commit. (Printed by apply_gen.py.) -/
import Derived.Test.YtaeeflfhjmjpjaaUrule
namespace Go.Proofs.Ytaeeflfhjmjpjaa
open Go.RowKit SlRd
set_option linter.unusedVariables false

@[reducible] def baseR (f : Int) (b0 : ByteArray) : Rc := ⟨true, f, ⟨0, 0⟩, b0, false, ⟨0, 0⟩, 0, ⟨#[]⟩⟩
@[reducible] def openR (f e s m : Int) (b b0 : ByteArray) : Rc := ⟨true, f, ⟨0, 0⟩, b0, true, ⟨e, s⟩, m, b⟩
@[reducible] def doneR (f e s : Int) (b : ByteArray) : Rc := ⟨true, f, ⟨e, s⟩, b, false, ⟨0, 0⟩, 0, ⟨#[]⟩⟩
@[reducible] def ask4 (S E Q m : Int) (b : ByteArray) : Ak := ⟨4, S, E, Q, m, 0, ⟨0, 0⟩, b⟩
@[reducible] def ask5 (S E Q : Int) : Ak := ⟨5, S, E, Q, 0, 0, ⟨0, 0⟩, ⟨#[]⟩⟩
theorem base_right {f : Int} {b0 : ByteArray} (h1 : 0 ≤ f) (h2 : f ≤ 16777215) (h0 : b0.size = 16) : (baseR f b0).right :=
  ⟨rfl, ⟨by simp, by simp, by simp, by simp⟩, ⟨by simp, by simp, by simp, by simp⟩, ⟨h1, h2⟩, ⟨by simp, by simp⟩, h0, fun h => (by cases h), fun _ => ⟨rfl, rfl, rfl⟩⟩
theorem open_right {f e s m : Int} {b b0 : ByteArray} (h1 : 0 ≤ f) (h2 : f ≤ 16777215) (h3 : 0 ≤ e) (h4 : e ≤ 16777215) (h5 : 0 ≤ s) (h6 : s ≤ 16777215) (h7 : 0 ≤ m) (h8 : m ≤ 63) (hb : b.size = 16) (h0 : b0.size = 16) : (openR f e s m b b0).right :=
  ⟨rfl, ⟨by simp, by simp, by simp, by simp⟩, ⟨h3, h4, h5, h6⟩, ⟨h1, h2⟩, ⟨h7, h8⟩, h0, fun _ => hb, fun h => (by cases h)⟩
theorem done_right {f e s : Int} {b : ByteArray} (h1 : 0 ≤ f) (h2 : f ≤ 16777215) (h3 : 0 ≤ e) (h4 : e ≤ 16777215) (h5 : 0 ≤ s) (h6 : s ≤ 16777215) (hb : b.size = 16) : (doneR f e s b).right :=
  ⟨rfl, ⟨h3, h4, h5, h6⟩, ⟨by simp, by simp, by simp, by simp⟩, ⟨h1, h2⟩, ⟨by simp, by simp⟩, hb, fun h => (by cases h), fun _ => ⟨rfl, rfl, rfl⟩⟩
theorem four_set {n i : Nat} {A B C D : List Value} {W : World} (h : Four n A B C D W) (hi : i < A.length) (v : Value) : Four n (A.set i v) B C D (W.setCell ⟨n, i, none⟩ v) := by
  refine ⟨cellsAt_set h.a i hi v, fun j => ?_, fun j => ?_, fun j => ?_, fun j => ?_, fun j => ?_, fun j => ?_, by rw [BRow.size_setCell]; exact h.size⟩
  · rw [World.cell?_setCell_other _ _ _ _ (by intro he; cases he)]; exact h.b j
  · rw [World.cell?_setCell_other _ _ _ _ (by intro he; injection he; omega)]; exact h.c j
  · rw [World.cell?_setCell_other _ _ _ _ (by intro he; injection he; omega)]; exact h.d j
  · rw [World.frozen?_setCell]; exact h.fa j
  · rw [World.frozen?_setCell]; exact h.fc j
  · rw [World.frozen?_setCell]; exact h.fd j
theorem before_zero (E Q : Int) (h : 1 ≤ E) (W : World) : Calls Try.prog 52 #[(⟨0, 0⟩ : Tg).v, (⟨E, Q⟩ : Tg).v] W fun e w' => e = .returned (.bool true) ∧ Below W.heap.size W w' := by
  have := before_any ⟨0, 0⟩ ⟨E, Q⟩ W
  rwa [show (decide ((⟨0, 0⟩ : Tg).e < (⟨E, Q⟩ : Tg).e) || ((⟨0, 0⟩ : Tg).e == (⟨E, Q⟩ : Tg).e && decide ((⟨0, 0⟩ : Tg).s < (⟨E, Q⟩ : Tg).s))) = true from by
    rw [decide_eq_true (show (0 : Int) < E by omega)]
    rfl] at this
theorem before_same (E Q : Int) (W : World) : Calls Try.prog 52 #[(⟨E, Q⟩ : Tg).v, (⟨E, Q⟩ : Tg).v] W fun e w' => e = .returned (.bool false) ∧ Below W.heap.size W w' := by
  have := before_any ⟨E, Q⟩ ⟨E, Q⟩ W
  rwa [show (decide ((⟨E, Q⟩ : Tg).e < (⟨E, Q⟩ : Tg).e) || ((⟨E, Q⟩ : Tg).e == (⟨E, Q⟩ : Tg).e && decide ((⟨E, Q⟩ : Tg).s < (⟨E, Q⟩ : Tg).s))) = false from by
    rw [decide_eq_false (show ¬ (E < E) by omega), decide_eq_false (show ¬ (Q < Q) by omega), Bool.and_false]
    rfl] at this
theorem size34 : (Try.prog.info? 34).map (·.size) = some 2 := by kernel_rfl

set_option maxRecDepth 100000 in
set_option maxHeartbeats 1600000 in
theorem apply4_base (S E Q m : Int) (b b0 : ByteArray) (h1 : 0 ≤ S) (h2 : S < 8) (h3 : 1 ≤ E) (h4 : E ≤ 16777215) (h5 : 1 ≤ Q) (h6 : Q ≤ 16777215) (h7 : 1 ≤ m) (h8 : m ≤ 63) (hb : b.size = 16) (h0 : b0.size = 16) (w : World) :
    Calls Try.prog 36 #[(baseR E b0).v, (ask4 S E Q m b).v] w fun e w' => e = .returned (.tuple #[(openR E E Q m b b0).v, sayV 1 E nilRc]) ∧ Below w.heap.size w w' := by
  have HR := Lib.hid (fun W => right_rec (baseR E b0) (base_right (by omega) (by omega) h0) W)
  have HQ := Lib.hid (fun W => right4 S E Q m b h1 h2 h3 h4 h5 h6 h7 h8 hb W)
  have HB := Lib.hid (fun W => before_zero E Q h3 W)
  have heq := eqTag
  have HF := Lib.hid (fun W => finished_any (baseR E b0) W)
  have HY := Lib.hid (fun R W => say_any R 1 W)
  have hE0 : ((0 : Int) == E) = false := by rw [beq_eq_false_iff_ne]; omega
  have hE1 : (E == (0 : Int)) = false := by rw [beq_eq_false_iff_ne]; omega
  clear h1 h2 h4 h5 h6 h7 h8
  go_enter Try.func36, Try.ntmps36
  go_wp2_with fail
  obtain ⟨F0, hb0⟩ := Four.of w (Rc.cs (baseR E b0)) (Ak.cs (ask4 S E Q m b)) nilRc.cs (sayL 0 0 nilRc) 37 43 37 68
  generalize ((((w.alloc (.cells (Rc.cs (baseR E b0)).toArray 37)).alloc (.cells (Ak.cs (ask4 S E Q m b)).toArray 43)).alloc (.cells nilRc.cs.toArray 37)).alloc (.cells (sayL 0 0 nilRc).toArray 68)) = w0 at F0 hb0 ⊢
  generalize hN : w.heap.size = N at F0 ⊢
  have hNle := Nat.le_of_eq hN
  clear hN
  refine (HR.out _).mono ?_; rintro e w1 ⟨rfl, hb1⟩
  have F1 := F0.below hb1
  have hB1 := below_then hb0 hb1
  clear F0 hb0 hb1 HR
  have q0 := F1.b 0; have q1 := F1.b 1; have q2 := F1.b 2; have q3 := F1.b 3; have q4 := F1.b 4; have q5 := F1.b 5; have q6 := F1.b 6; have q7 := F1.b 7; have q8 := F1.b 8
  simp only [Ak.cs, List.getElem?_cons_zero, List.getElem?_cons_succ] at q0 q1 q2 q3 q4 q5 q6 q7 q8
  go_wp2_with fail
  refine (HQ.out _).mono ?_; rintro e w2 ⟨rfl, hb2⟩
  have F2 := F1.below hb2
  have hB2 := below_then hB1 hb2
  clear F1 hB1 hb2 HQ q0 q1 q2 q3 q4 q5 q6 q7 q8
  have p0 := F2.a 0; have p1 := F2.a 1; have p2 := F2.a 2; have p3 := F2.a 3
  have q0 := F2.b 0; have q2 := F2.b 2; have q3 := F2.b 3
  simp only [Ak.cs, Rc.cs, List.getElem?_cons_zero, List.getElem?_cons_succ] at p0 p1 p2 p3 q0 q2 q3
  go_upto_region 6 with fail
  have M := New.of w2 [.int .i64 E, .int .i64 Q] 34
  generalize w2.alloc (.cells [.int .i64 E, .int .i64 Q].toArray 34) = w3 at M ⊢
  obtain ⟨M5, _, M7, M8⟩ := M
  have F3 := F2.below M7
  have hB3 := below_then hB2 M7
  have hs23 := F2.size
  clear F2 hB2 M7 p0 p1 p2 p3 q0 q2 q3
  generalize w2.heap.size = T at M5 M8 hs23 ⊢
  have p0 := F3.a 0; have p1 := F3.a 1; have p2 := F3.a 2; have p3 := F3.a 3
  have q0 := F3.b 0; have q2 := F3.b 2; have q3 := F3.b 3
  have t0 := M5 0; have t1 := M5 1
  simp only [Ak.cs, Rc.cs, List.getElem?_cons_zero, List.getElem?_cons_succ] at p0 p1 p2 p3 q0 q2 q3 t0 t1
  go_wp2_with fail
  refine (HB.out _).mono ?_; rintro e w4 ⟨rfl, hb4⟩
  have F4 := F3.below hb4
  have hB4 := below_then hB3 hb4
  have T0 : w4.cell? ⟨T, 0, none⟩ = some (.int .i64 E) := (hb4.cell (p := ⟨T, 0, none⟩) M8).trans t0
  have T1 : w4.cell? ⟨T, 1, none⟩ = some (.int .i64 Q) := (hb4.cell (p := ⟨T, 1, none⟩) M8).trans t1
  clear F3 hB3 hb4 p0 p1 p2 p3 q0 q2 q3 t0 t1 M5 M8
  have p0 := F4.a 0; have p1 := F4.a 1; have p2 := F4.a 2; have p3 := F4.a 3; have p4 := F4.a 4; have p5 := F4.a 5; have p6 := F4.a 6; have p7 := F4.a 7; have p8 := F4.a 8; have p9 := F4.a 9
  have q0 := F4.b 0; have q4 := F4.b 4; have q8 := F4.b 8
  simp only [Ak.cs, Rc.cs, List.getElem?_cons_zero, List.getElem?_cons_succ] at p0 p1 p2 p3 p4 p5 p6 p7 p8 p9 q0 q4 q8
  have FIN : ∀ (R : Rc) (A : List Value) (W : World), Four N A (Ak.cs (ask4 S E Q m b)) nilRc.cs (sayL 0 0 nilRc) W → Below w.heap.size w W → (W.there (N + 1 + 1) 0 10 ∧ (W.setCells (N + 1 + 1) 0 R.cs).there (N + 1 + 1 + 1) 0 13 ∧
      ((W.setCells (N + 1 + 1) 0 R.cs).setCells (N + 1 + 1 + 1) 0 (sayL 1 E nilRc)).rangeAt (N + 1 + 1) 0 R.cs ∧ ((W.setCells (N + 1 + 1) 0 R.cs).setCells (N + 1 + 1 + 1) 0 (sayL 1 E nilRc)).rangeAt (N + 1 + 1 + 1) 0 (sayL 1 E nilRc) ∧ Below w.heap.size w ((W.setCells (N + 1 + 1) 0 R.cs).setCells (N + 1 + 1 + 1) 0 (sayL 1 E nilRc))) := fun R A W F hb => by
    have st4 := there_of F.c F.fc (n := 10) rfl
    have st5 := there_of F.d F.fd (n := 13) rfl
    obtain ⟨x1, x2⟩ := two_stores (c4 := R.cs) (c5 := sayL 1 E nilRc) st4 st5 (by omega)
    exact ⟨st4, World.there_setCells st5 _ _ _, x1, x2, BRow.setCells_below _ (by omega) _ _ _ (BRow.setCells_below _ (by omega) _ _ _ hb)⟩
  have FIN := Lib.hid FIN
  have f5 := F4.fa 5; have f6 := F4.fa 6; have f7 := F4.fa 7; have f8 := F4.fa 8; have f9 := F4.fa 9
  go_upto_region 36 with fail
  have F7 := four_set (four_set (four_set (four_set (four_set F4 (i := 5) (by simp) (.bool true)) (i := 6) (by simp) (.int .i64 E)) (i := 7) (by simp) (.int .i64 Q)) (i := 8) (by simp) (.int .i64 m)) (i := 9) (by simp) (.string b)
  have hB7 := ((((hB4.setCell (p := ⟨N, 5, none⟩) hNle (.bool true)).setCell (p := ⟨N, 6, none⟩) hNle (.int .i64 E)).setCell (p := ⟨N, 7, none⟩) hNle (.int .i64 Q)).setCell (p := ⟨N, 8, none⟩) hNle (.int .i64 m)).setCell (p := ⟨N, 9, none⟩) hNle (.string b)
  generalize ((((w4.setCell ⟨N, 5, none⟩ (.bool true)).setCell ⟨N, 6, none⟩ (.int .i64 E)).setCell ⟨N, 7, none⟩ (.int .i64 Q)).setCell ⟨N, 8, none⟩ (.int .i64 m)).setCell ⟨N, 9, none⟩ (.string b) = w7 at F7 hB7 ⊢
  clear F4 hB4 T0 T1 p0 p1 p2 p3 p4 p5 p6 p7 p8 p9 q0 q4 q8 f5 f6 f7 f8 f9
  have p0 := F7.a 0; have p1 := F7.a 1; have p2 := F7.a 2; have p3 := F7.a 3; have p4 := F7.a 4; have p5 := F7.a 5; have p6 := F7.a 6; have p7 := F7.a 7; have p8 := F7.a 8; have p9 := F7.a 9
  have q0 := F7.b 0; have q4 := F7.b 4; have q8 := F7.b 8
  simp only [Ak.cs, Rc.cs, List.getElem?_cons_zero, List.getElem?_cons_succ, List.set_cons_zero, List.set_cons_succ] at p0 p1 p2 p3 p4 p5 p6 p7 p8 p9 q0 q4 q8
  go_wp2_with fail
  refine (HY.out (openR E E Q m b b0) _).mono ?_; rintro e w5 ⟨rfl, hb5⟩
  obtain ⟨g1, g2, g3, g4, g5⟩ := FIN.out (openR E E Q m b b0) _ w5 (F7.below hb5) (below_then hB7 hb5)
  clear p0 p1 p2 p3 p4 p5 p6 p7 p8 p9 q0 q4 q8
  go_wp2_with (first | (refine wpList_store_mid rfl 37 (.tmp 4) (.tmp 167) rfl (N + 1 + 1) 0 (openR E E Q m b b0).cs.toArray rfl rfl ?_ ?_ (rc_one (openR E E Q m b b0)) ?_; exact g1; exact size37) | (refine wpList_store_mid rfl 68 (.tmp 5) (.tmp 168) rfl (N + 1 + 1 + 1) 0 (sayL 1 E nilRc).toArray rfl rfl ?_ ?_ (say_one 1 E nilRc) ?_; exact g2; exact size68))
  exact bodyPost_ret (res36 rfl rfl g3 g4 rfl rfl) rfl ⟨rfl, g5⟩

set_option maxRecDepth 100000 in
set_option maxHeartbeats 1600000 in
theorem apply4_open (S E Q m : Int) (b b0 : ByteArray) (h1 : 0 ≤ S) (h2 : S < 8) (h3 : 1 ≤ E) (h4 : E ≤ 16777215) (h5 : 1 ≤ Q) (h6 : Q ≤ 16777215) (h7 : 1 ≤ m) (h8 : m ≤ 63) (hb : b.size = 16) (h0 : b0.size = 16) (w : World) :
    Calls Try.prog 36 #[(openR E E Q m b b0).v, (ask4 S E Q m b).v] w fun e w' => e = .returned (.tuple #[(openR E E Q m b b0).v, sayV 1 E nilRc]) ∧ Below w.heap.size w w' := by
  have HR := Lib.hid (fun W => right_rec (openR E E Q m b b0) (open_right (by omega) (by omega) (by omega) (by omega) (by omega) (by omega) (by omega) (by omega) hb h0) W)
  have HQ := Lib.hid (fun W => right4 S E Q m b h1 h2 h3 h4 h5 h6 h7 h8 hb W)
  have HB := Lib.hid (fun W => before_zero E Q h3 W)
  have heq := eqTag
  have HF := Lib.hid (fun W => finished_any (openR E E Q m b b0) W)
  have HY := Lib.hid (fun R W => say_any R 1 W)
  have hE0 : ((0 : Int) == E) = false := by rw [beq_eq_false_iff_ne]; omega
  have hE1 : (E == (0 : Int)) = false := by rw [beq_eq_false_iff_ne]; omega
  clear h1 h2 h4 h5 h6 h7 h8
  go_enter Try.func36, Try.ntmps36
  go_wp2_with fail
  obtain ⟨F0, hb0⟩ := Four.of w (Rc.cs (openR E E Q m b b0)) (Ak.cs (ask4 S E Q m b)) nilRc.cs (sayL 0 0 nilRc) 37 43 37 68
  generalize ((((w.alloc (.cells (Rc.cs (openR E E Q m b b0)).toArray 37)).alloc (.cells (Ak.cs (ask4 S E Q m b)).toArray 43)).alloc (.cells nilRc.cs.toArray 37)).alloc (.cells (sayL 0 0 nilRc).toArray 68)) = w0 at F0 hb0 ⊢
  generalize hN : w.heap.size = N at F0 ⊢
  have hNle := Nat.le_of_eq hN
  clear hN
  refine (HR.out _).mono ?_; rintro e w1 ⟨rfl, hb1⟩
  have F1 := F0.below hb1
  have hB1 := below_then hb0 hb1
  clear F0 hb0 hb1 HR
  have q0 := F1.b 0; have q1 := F1.b 1; have q2 := F1.b 2; have q3 := F1.b 3; have q4 := F1.b 4; have q5 := F1.b 5; have q6 := F1.b 6; have q7 := F1.b 7; have q8 := F1.b 8
  simp only [Ak.cs, List.getElem?_cons_zero, List.getElem?_cons_succ] at q0 q1 q2 q3 q4 q5 q6 q7 q8
  go_wp2_with fail
  refine (HQ.out _).mono ?_; rintro e w2 ⟨rfl, hb2⟩
  have F2 := F1.below hb2
  have hB2 := below_then hB1 hb2
  clear F1 hB1 hb2 HQ q0 q1 q2 q3 q4 q5 q6 q7 q8
  have p0 := F2.a 0; have p1 := F2.a 1; have p2 := F2.a 2; have p3 := F2.a 3
  have q0 := F2.b 0; have q2 := F2.b 2; have q3 := F2.b 3
  simp only [Ak.cs, Rc.cs, List.getElem?_cons_zero, List.getElem?_cons_succ] at p0 p1 p2 p3 q0 q2 q3
  go_upto_region 6 with fail
  have M := New.of w2 [.int .i64 E, .int .i64 Q] 34
  generalize w2.alloc (.cells [.int .i64 E, .int .i64 Q].toArray 34) = w3 at M ⊢
  obtain ⟨M5, _, M7, M8⟩ := M
  have F3 := F2.below M7
  have hB3 := below_then hB2 M7
  have hs23 := F2.size
  clear F2 hB2 M7 p0 p1 p2 p3 q0 q2 q3
  generalize w2.heap.size = T at M5 M8 hs23 ⊢
  have p0 := F3.a 0; have p1 := F3.a 1; have p2 := F3.a 2; have p3 := F3.a 3
  have q0 := F3.b 0; have q2 := F3.b 2; have q3 := F3.b 3
  have t0 := M5 0; have t1 := M5 1
  simp only [Ak.cs, Rc.cs, List.getElem?_cons_zero, List.getElem?_cons_succ] at p0 p1 p2 p3 q0 q2 q3 t0 t1
  go_wp2_with fail
  refine (HB.out _).mono ?_; rintro e w4 ⟨rfl, hb4⟩
  have F4 := F3.below hb4
  have hB4 := below_then hB3 hb4
  have T0 : w4.cell? ⟨T, 0, none⟩ = some (.int .i64 E) := (hb4.cell (p := ⟨T, 0, none⟩) M8).trans t0
  have T1 : w4.cell? ⟨T, 1, none⟩ = some (.int .i64 Q) := (hb4.cell (p := ⟨T, 1, none⟩) M8).trans t1
  clear F3 hB3 hb4 p0 p1 p2 p3 q0 q2 q3 t0 t1 M5 M8
  have p0 := F4.a 0; have p1 := F4.a 1; have p2 := F4.a 2; have p3 := F4.a 3; have p4 := F4.a 4; have p5 := F4.a 5; have p6 := F4.a 6; have p7 := F4.a 7; have p8 := F4.a 8; have p9 := F4.a 9
  have q0 := F4.b 0; have q4 := F4.b 4; have q8 := F4.b 8
  simp only [Ak.cs, Rc.cs, List.getElem?_cons_zero, List.getElem?_cons_succ] at p0 p1 p2 p3 p4 p5 p6 p7 p8 p9 q0 q4 q8
  have FIN : ∀ (R : Rc) (A : List Value) (W : World), Four N A (Ak.cs (ask4 S E Q m b)) nilRc.cs (sayL 0 0 nilRc) W → Below w.heap.size w W → (W.there (N + 1 + 1) 0 10 ∧ (W.setCells (N + 1 + 1) 0 R.cs).there (N + 1 + 1 + 1) 0 13 ∧
      ((W.setCells (N + 1 + 1) 0 R.cs).setCells (N + 1 + 1 + 1) 0 (sayL 1 E nilRc)).rangeAt (N + 1 + 1) 0 R.cs ∧ ((W.setCells (N + 1 + 1) 0 R.cs).setCells (N + 1 + 1 + 1) 0 (sayL 1 E nilRc)).rangeAt (N + 1 + 1 + 1) 0 (sayL 1 E nilRc) ∧ Below w.heap.size w ((W.setCells (N + 1 + 1) 0 R.cs).setCells (N + 1 + 1 + 1) 0 (sayL 1 E nilRc))) := fun R A W F hb => by
    have st4 := there_of F.c F.fc (n := 10) rfl
    have st5 := there_of F.d F.fd (n := 13) rfl
    obtain ⟨x1, x2⟩ := two_stores (c4 := R.cs) (c5 := sayL 1 E nilRc) st4 st5 (by omega)
    exact ⟨st4, World.there_setCells st5 _ _ _, x1, x2, BRow.setCells_below _ (by omega) _ _ _ (BRow.setCells_below _ (by omega) _ _ _ hb)⟩
  have FIN := Lib.hid FIN
  go_wp2_with fail
  refine (HY.out (openR E E Q m b b0) _).mono ?_; rintro e w5 ⟨rfl, hb5⟩
  obtain ⟨g1, g2, g3, g4, g5⟩ := FIN.out (openR E E Q m b b0) _ w5 (F4.below hb5) (below_then hB4 hb5)
  clear p0 p1 p2 p3 p4 p5 p6 p7 p8 p9 q0 q4 q8
  go_wp2_with (first | (refine wpList_store_mid rfl 37 (.tmp 4) (.tmp 143) rfl (N + 1 + 1) 0 (openR E E Q m b b0).cs.toArray rfl rfl ?_ ?_ (rc_one (openR E E Q m b b0)) ?_; exact g1; exact size37) | (refine wpList_store_mid rfl 68 (.tmp 5) (.tmp 144) rfl (N + 1 + 1 + 1) 0 (sayL 1 E nilRc).toArray rfl rfl ?_ ?_ (say_one 1 E nilRc) ?_; exact g2; exact size68))
  exact bodyPost_ret (res36 rfl rfl g3 g4 rfl rfl) rfl ⟨rfl, g5⟩

set_option maxRecDepth 100000 in
set_option maxHeartbeats 1600000 in
theorem apply5_open (S E Q m : Int) (b b0 : ByteArray) (h1 : 0 ≤ S) (h2 : S < 8) (h3 : 1 ≤ E) (h4 : E ≤ 16777215) (h5 : 1 ≤ Q) (h6 : Q ≤ 16777215) (h7 : 1 ≤ m) (h8 : m ≤ 63) (hb : b.size = 16) (h0 : b0.size = 16) (w : World) :
    Calls Try.prog 36 #[(openR E E Q m b b0).v, (ask5 S E Q).v] w fun e w' => e = .returned (.tuple #[(doneR E E Q b).v, sayV 1 E nilRc]) ∧ Below w.heap.size w w' := by
  have HR := Lib.hid (fun W => right_rec (openR E E Q m b b0) (open_right (by omega) (by omega) (by omega) (by omega) (by omega) (by omega) (by omega) (by omega) hb h0) W)
  have HQ := Lib.hid (fun W => right5 S E Q h1 h2 h3 h4 h5 h6 W)
  have HB := Lib.hid (fun W => before_zero E Q h3 W)
  have heq := eqTag
  have HF := Lib.hid (fun W => finished_any (openR E E Q m b b0) W)
  have HY := Lib.hid (fun R W => say_any R 1 W)
  have hE0 : ((0 : Int) == E) = false := by rw [beq_eq_false_iff_ne]; omega
  have hE1 : (E == (0 : Int)) = false := by rw [beq_eq_false_iff_ne]; omega
  clear h1 h2 h4 h5 h6 h7 h8
  go_enter Try.func36, Try.ntmps36
  go_wp2_with fail
  obtain ⟨F0, hb0⟩ := Four.of w (Rc.cs (openR E E Q m b b0)) (Ak.cs (ask5 S E Q)) nilRc.cs (sayL 0 0 nilRc) 37 43 37 68
  generalize ((((w.alloc (.cells (Rc.cs (openR E E Q m b b0)).toArray 37)).alloc (.cells (Ak.cs (ask5 S E Q)).toArray 43)).alloc (.cells nilRc.cs.toArray 37)).alloc (.cells (sayL 0 0 nilRc).toArray 68)) = w0 at F0 hb0 ⊢
  generalize hN : w.heap.size = N at F0 ⊢
  have hNle := Nat.le_of_eq hN
  clear hN
  refine (HR.out _).mono ?_; rintro e w1 ⟨rfl, hb1⟩
  have F1 := F0.below hb1
  have hB1 := below_then hb0 hb1
  clear F0 hb0 hb1 HR
  have q0 := F1.b 0; have q1 := F1.b 1; have q2 := F1.b 2; have q3 := F1.b 3; have q4 := F1.b 4; have q5 := F1.b 5; have q6 := F1.b 6; have q7 := F1.b 7; have q8 := F1.b 8
  simp only [Ak.cs, List.getElem?_cons_zero, List.getElem?_cons_succ] at q0 q1 q2 q3 q4 q5 q6 q7 q8
  go_wp2_with fail
  refine (HQ.out _).mono ?_; rintro e w2 ⟨rfl, hb2⟩
  have F2 := F1.below hb2
  have hB2 := below_then hB1 hb2
  clear F1 hB1 hb2 HQ q0 q1 q2 q3 q4 q5 q6 q7 q8
  have p0 := F2.a 0; have p1 := F2.a 1; have p2 := F2.a 2; have p3 := F2.a 3
  have q0 := F2.b 0; have q2 := F2.b 2; have q3 := F2.b 3
  simp only [Ak.cs, Rc.cs, List.getElem?_cons_zero, List.getElem?_cons_succ] at p0 p1 p2 p3 q0 q2 q3
  go_upto_region 6 with fail
  have M := New.of w2 [.int .i64 E, .int .i64 Q] 34
  generalize w2.alloc (.cells [.int .i64 E, .int .i64 Q].toArray 34) = w3 at M ⊢
  obtain ⟨M5, _, M7, M8⟩ := M
  have F3 := F2.below M7
  have hB3 := below_then hB2 M7
  have hs23 := F2.size
  clear F2 hB2 M7 p0 p1 p2 p3 q0 q2 q3
  generalize w2.heap.size = T at M5 M8 hs23 ⊢
  have p0 := F3.a 0; have p1 := F3.a 1; have p2 := F3.a 2; have p3 := F3.a 3
  have q0 := F3.b 0; have q2 := F3.b 2; have q3 := F3.b 3
  have t0 := M5 0; have t1 := M5 1
  simp only [Ak.cs, Rc.cs, List.getElem?_cons_zero, List.getElem?_cons_succ] at p0 p1 p2 p3 q0 q2 q3 t0 t1
  go_wp2_with fail
  refine (HB.out _).mono ?_; rintro e w4 ⟨rfl, hb4⟩
  have F4 := F3.below hb4
  have hB4 := below_then hB3 hb4
  have T0 : w4.cell? ⟨T, 0, none⟩ = some (.int .i64 E) := (hb4.cell (p := ⟨T, 0, none⟩) M8).trans t0
  have T1 : w4.cell? ⟨T, 1, none⟩ = some (.int .i64 Q) := (hb4.cell (p := ⟨T, 1, none⟩) M8).trans t1
  clear F3 hB3 hb4 p0 p1 p2 p3 q0 q2 q3 t0 t1 M5 M8
  have p0 := F4.a 0; have p1 := F4.a 1; have p2 := F4.a 2; have p3 := F4.a 3; have p4 := F4.a 4; have p5 := F4.a 5; have p6 := F4.a 6; have p7 := F4.a 7; have p8 := F4.a 8; have p9 := F4.a 9
  have q0 := F4.b 0; have q4 := F4.b 4; have q8 := F4.b 8
  simp only [Ak.cs, Rc.cs, List.getElem?_cons_zero, List.getElem?_cons_succ] at p0 p1 p2 p3 p4 p5 p6 p7 p8 p9 q0 q4 q8
  have FIN : ∀ (R : Rc) (A : List Value) (W : World), Four N A (Ak.cs (ask5 S E Q)) nilRc.cs (sayL 0 0 nilRc) W → Below w.heap.size w W → (W.there (N + 1 + 1) 0 10 ∧ (W.setCells (N + 1 + 1) 0 R.cs).there (N + 1 + 1 + 1) 0 13 ∧
      ((W.setCells (N + 1 + 1) 0 R.cs).setCells (N + 1 + 1 + 1) 0 (sayL 1 E nilRc)).rangeAt (N + 1 + 1) 0 R.cs ∧ ((W.setCells (N + 1 + 1) 0 R.cs).setCells (N + 1 + 1 + 1) 0 (sayL 1 E nilRc)).rangeAt (N + 1 + 1 + 1) 0 (sayL 1 E nilRc) ∧ Below w.heap.size w ((W.setCells (N + 1 + 1) 0 R.cs).setCells (N + 1 + 1 + 1) 0 (sayL 1 E nilRc))) := fun R A W F hb => by
    have st4 := there_of F.c F.fc (n := 10) rfl
    have st5 := there_of F.d F.fd (n := 13) rfl
    obtain ⟨x1, x2⟩ := two_stores (c4 := R.cs) (c5 := sayL 1 E nilRc) st4 st5 (by omega)
    exact ⟨st4, World.there_setCells st5 _ _ _, x1, x2, BRow.setCells_below _ (by omega) _ _ _ (BRow.setCells_below _ (by omega) _ _ _ hb)⟩
  have FIN := Lib.hid FIN
  go_wp2_with fail
  refine (HF.out _).mono ?_; rintro e w6 ⟨rfl, hb6⟩
  have F6 := F4.below hb6
  have hB6 := below_then hB4 hb6
  go_wp2_with fail
  refine (HY.out (doneR E E Q b) _).mono ?_; rintro e w5 ⟨rfl, hb5⟩
  obtain ⟨g1, g2, g3, g4, g5⟩ := FIN.out (doneR E E Q b) _ w5 (F6.below hb5) (below_then hB6 hb5)
  clear p0 p1 p2 p3 p4 p5 p6 p7 p8 p9 q0 q4 q8
  go_wp2_with (first | (refine wpList_store_mid rfl 37 (.tmp 4) (.tmp 182) rfl (N + 1 + 1) 0 (doneR E E Q b).cs.toArray rfl rfl ?_ ?_ (rc_one (doneR E E Q b)) ?_; exact g1; exact size37) | (refine wpList_store_mid rfl 68 (.tmp 5) (.tmp 183) rfl (N + 1 + 1 + 1) 0 (sayL 1 E nilRc).toArray rfl rfl ?_ ?_ (say_one 1 E nilRc) ?_; exact g2; exact size68))
  exact bodyPost_ret (res36 rfl rfl g3 g4 rfl rfl) rfl ⟨rfl, g5⟩

set_option maxRecDepth 100000 in
set_option maxHeartbeats 1600000 in
theorem apply5_done (S E Q m : Int) (b b0 : ByteArray) (h1 : 0 ≤ S) (h2 : S < 8) (h3 : 1 ≤ E) (h4 : E ≤ 16777215) (h5 : 1 ≤ Q) (h6 : Q ≤ 16777215) (h7 : 1 ≤ m) (h8 : m ≤ 63) (hb : b.size = 16) (h0 : b0.size = 16) (w : World) :
    Calls Try.prog 36 #[(doneR E E Q b).v, (ask5 S E Q).v] w fun e w' => e = .returned (.tuple #[(doneR E E Q b).v, sayV 1 E nilRc]) ∧ Below w.heap.size w w' := by
  have HR := Lib.hid (fun W => right_rec (doneR E E Q b) (done_right (by omega) (by omega) (by omega) (by omega) (by omega) (by omega) hb) W)
  have HQ := Lib.hid (fun W => right5 S E Q h1 h2 h3 h4 h5 h6 W)
  have HB := Lib.hid (fun W => before_same E Q W)
  have heq := eqTag
  have HF := Lib.hid (fun W => finished_any (doneR E E Q b) W)
  have HY := Lib.hid (fun R W => say_any R 1 W)
  have hE0 : ((0 : Int) == E) = false := by rw [beq_eq_false_iff_ne]; omega
  have hE1 : (E == (0 : Int)) = false := by rw [beq_eq_false_iff_ne]; omega
  clear h1 h2 h4 h5 h6 h7 h8
  go_enter Try.func36, Try.ntmps36
  go_wp2_with fail
  obtain ⟨F0, hb0⟩ := Four.of w (Rc.cs (doneR E E Q b)) (Ak.cs (ask5 S E Q)) nilRc.cs (sayL 0 0 nilRc) 37 43 37 68
  generalize ((((w.alloc (.cells (Rc.cs (doneR E E Q b)).toArray 37)).alloc (.cells (Ak.cs (ask5 S E Q)).toArray 43)).alloc (.cells nilRc.cs.toArray 37)).alloc (.cells (sayL 0 0 nilRc).toArray 68)) = w0 at F0 hb0 ⊢
  generalize hN : w.heap.size = N at F0 ⊢
  have hNle := Nat.le_of_eq hN
  clear hN
  refine (HR.out _).mono ?_; rintro e w1 ⟨rfl, hb1⟩
  have F1 := F0.below hb1
  have hB1 := below_then hb0 hb1
  clear F0 hb0 hb1 HR
  have q0 := F1.b 0; have q1 := F1.b 1; have q2 := F1.b 2; have q3 := F1.b 3; have q4 := F1.b 4; have q5 := F1.b 5; have q6 := F1.b 6; have q7 := F1.b 7; have q8 := F1.b 8
  simp only [Ak.cs, List.getElem?_cons_zero, List.getElem?_cons_succ] at q0 q1 q2 q3 q4 q5 q6 q7 q8
  go_wp2_with fail
  refine (HQ.out _).mono ?_; rintro e w2 ⟨rfl, hb2⟩
  have F2 := F1.below hb2
  have hB2 := below_then hB1 hb2
  clear F1 hB1 hb2 HQ q0 q1 q2 q3 q4 q5 q6 q7 q8
  have p0 := F2.a 0; have p1 := F2.a 1; have p2 := F2.a 2; have p3 := F2.a 3
  have q0 := F2.b 0; have q2 := F2.b 2; have q3 := F2.b 3
  simp only [Ak.cs, Rc.cs, List.getElem?_cons_zero, List.getElem?_cons_succ] at p0 p1 p2 p3 q0 q2 q3
  go_upto_region 6 with fail
  have M := New.of w2 [.int .i64 E, .int .i64 Q] 34
  generalize w2.alloc (.cells [.int .i64 E, .int .i64 Q].toArray 34) = w3 at M ⊢
  obtain ⟨M5, _, M7, M8⟩ := M
  have F3 := F2.below M7
  have hB3 := below_then hB2 M7
  have hs23 := F2.size
  clear F2 hB2 M7 p0 p1 p2 p3 q0 q2 q3
  generalize w2.heap.size = T at M5 M8 hs23 ⊢
  have p0 := F3.a 0; have p1 := F3.a 1; have p2 := F3.a 2; have p3 := F3.a 3
  have q0 := F3.b 0; have q2 := F3.b 2; have q3 := F3.b 3
  have t0 := M5 0; have t1 := M5 1
  simp only [Ak.cs, Rc.cs, List.getElem?_cons_zero, List.getElem?_cons_succ] at p0 p1 p2 p3 q0 q2 q3 t0 t1
  go_wp2_with fail
  refine (HB.out _).mono ?_; rintro e w4 ⟨rfl, hb4⟩
  have F4 := F3.below hb4
  have hB4 := below_then hB3 hb4
  have T0 : w4.cell? ⟨T, 0, none⟩ = some (.int .i64 E) := (hb4.cell (p := ⟨T, 0, none⟩) M8).trans t0
  have T1 : w4.cell? ⟨T, 1, none⟩ = some (.int .i64 Q) := (hb4.cell (p := ⟨T, 1, none⟩) M8).trans t1
  clear F3 hB3 hb4 p0 p1 p2 p3 q0 q2 q3 t0 t1 M5 M8
  have p0 := F4.a 0; have p1 := F4.a 1; have p2 := F4.a 2; have p3 := F4.a 3; have p4 := F4.a 4; have p5 := F4.a 5; have p6 := F4.a 6; have p7 := F4.a 7; have p8 := F4.a 8; have p9 := F4.a 9
  have q0 := F4.b 0; have q4 := F4.b 4; have q8 := F4.b 8
  simp only [Ak.cs, Rc.cs, List.getElem?_cons_zero, List.getElem?_cons_succ] at p0 p1 p2 p3 p4 p5 p6 p7 p8 p9 q0 q4 q8
  have FIN : ∀ (R : Rc) (A : List Value) (W : World), Four N A (Ak.cs (ask5 S E Q)) nilRc.cs (sayL 0 0 nilRc) W → Below w.heap.size w W → (W.there (N + 1 + 1) 0 10 ∧ (W.setCells (N + 1 + 1) 0 R.cs).there (N + 1 + 1 + 1) 0 13 ∧
      ((W.setCells (N + 1 + 1) 0 R.cs).setCells (N + 1 + 1 + 1) 0 (sayL 1 E nilRc)).rangeAt (N + 1 + 1) 0 R.cs ∧ ((W.setCells (N + 1 + 1) 0 R.cs).setCells (N + 1 + 1 + 1) 0 (sayL 1 E nilRc)).rangeAt (N + 1 + 1 + 1) 0 (sayL 1 E nilRc) ∧ Below w.heap.size w ((W.setCells (N + 1 + 1) 0 R.cs).setCells (N + 1 + 1 + 1) 0 (sayL 1 E nilRc))) := fun R A W F hb => by
    have st4 := there_of F.c F.fc (n := 10) rfl
    have st5 := there_of F.d F.fd (n := 13) rfl
    obtain ⟨x1, x2⟩ := two_stores (c4 := R.cs) (c5 := sayL 1 E nilRc) st4 st5 (by omega)
    exact ⟨st4, World.there_setCells st5 _ _ _, x1, x2, BRow.setCells_below _ (by omega) _ _ _ (BRow.setCells_below _ (by omega) _ _ _ hb)⟩
  have FIN := Lib.hid FIN
  go_wp2_with fail
  refine (HY.out (doneR E E Q b) _).mono ?_; rintro e w5 ⟨rfl, hb5⟩
  obtain ⟨g1, g2, g3, g4, g5⟩ := FIN.out (doneR E E Q b) _ w5 (F4.below hb5) (below_then hB4 hb5)
  clear p0 p1 p2 p3 p4 p5 p6 p7 p8 p9 q0 q4 q8
  go_wp2_with (first | (refine wpList_store_mid rfl 37 (.tmp 4) (.tmp 190) rfl (N + 1 + 1) 0 (doneR E E Q b).cs.toArray rfl rfl ?_ ?_ (rc_one (doneR E E Q b)) ?_; exact g1; exact size37) | (refine wpList_store_mid rfl 68 (.tmp 5) (.tmp 191) rfl (N + 1 + 1 + 1) 0 (sayL 1 E nilRc).toArray rfl rfl ?_ ?_ (say_one 1 E nilRc) ?_; exact g2; exact size68))
  exact bodyPost_ret (res36 rfl rfl g3 g4 rfl rfl) rfl ⟨rfl, g5⟩

end Go.Proofs.Ytaeeflfhjmjpjaa
