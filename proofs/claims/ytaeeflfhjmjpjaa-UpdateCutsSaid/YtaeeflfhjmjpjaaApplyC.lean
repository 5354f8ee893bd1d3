/- The walk of the document's layer 9, Apply, at an ask to fence. (Printed by apply1_gen.py.) -/
import Derived.Test.YtaeeflfhjmjpjaaApplyB
namespace Go.Proofs.Ytaeeflfhjmjpjaa
open Go.RowKit SlRd
set_option linter.unusedVariables false

@[reducible] def fenceR (r : Rc) (f : Int) : Rc := ⟨r.used, f, r.done, r.block, r.op, r.intent, r.mask, r.staged⟩
@[reducible] def ask1 (S E : Int) : Ak := ⟨1, S, E, 0, 0, 0, ⟨0, 0⟩, ⟨#[]⟩⟩

set_option maxRecDepth 100000 in
set_option maxHeartbeats 6400000 in
theorem apply1 (r : Rc) (hr : r.right) (S E : Int) (h1 : 0 ≤ S) (h2 : S < 8) (h3 : 1 ≤ E) (h4 : E ≤ 16777215) (hf : r.fence ≤ E) (w : World) :
    Calls Try.prog 36 #[r.v, (ask1 S E).v] w fun e w' => e = .returned (.tuple #[(fenceR r E).v, sayV 1 E (fenceR r E)]) ∧ Below w.heap.size w w' := by
  have HR := Lib.hid (fun W => right_rec r hr W)
  have HQ := Lib.hid (fun W => right1 S E h1 h2 h3 h4 W)
  have heq := eqTag
  clear h1 h2 h3 h4 hr
  obtain ⟨u, f, ⟨de, ds⟩, b, o, ⟨ie, is⟩, m, s⟩ := r
  simp only at hf HR
  go_enter Try.func36, Try.ntmps36
  go_wp2_with fail
  obtain ⟨F0, hb0⟩ := Four.of w (Rc.cs ⟨u, f, ⟨de, ds⟩, b, o, ⟨ie, is⟩, m, s⟩) (Ak.cs (ask1 S E)) nilRc.cs (sayL 0 0 nilRc) 37 43 37 68
  generalize ((((w.alloc (.cells (Rc.cs ⟨u, f, ⟨de, ds⟩, b, o, ⟨ie, is⟩, m, s⟩).toArray 37)).alloc (.cells (Ak.cs (ask1 S E)).toArray 43)).alloc (.cells nilRc.cs.toArray 37)).alloc (.cells (sayL 0 0 nilRc).toArray 68)) = w0 at F0 hb0 ⊢
  generalize hN : w.heap.size = N at F0 ⊢
  have hNle := Nat.le_of_eq hN
  clear hN
  refine (HR.out _).mono ?_; rintro e w1 ⟨rfl, hb1⟩
  have F1 := F0.below hb1
  have hB1 := below_then hb0 hb1
  clear F0 hb0 hb1 HR
  have q0 := F1.b 0; have q1 := F1.b 1; have q2 := F1.b 2; have q3 := F1.b 3; have q4 := F1.b 4; have q5 := F1.b 5; have q6 := F1.b 6; have q7 := F1.b 7; have q8 := F1.b 8
  simp only [Ak.cs, List.getElem?_cons_zero, List.getElem?_cons_succ] at q0 q1 q2 q3 q4 q5 q6 q7 q8
  go_wp2_with fail
  refine (HQ.out _).mono ?_; rintro e w2 ⟨rfl, hb2⟩
  have F2 := F1.below hb2
  have hB2 := below_then hB1 hb2
  clear F1 hB1 hb2 HQ q0 q1 q2 q3 q4 q5 q6 q7 q8
  have q0 := F2.b 0; have q2 := F2.b 2; have q3 := F2.b 3
  simp only [Ak.cs, List.getElem?_cons_zero, List.getElem?_cons_succ] at q0 q2 q3
  go_upto_region 6 with fail
  have M := New.of w2 [.int .i64 E, .int .i64 0] 34
  generalize w2.alloc (.cells [.int .i64 E, .int .i64 0].toArray 34) = w3 at M ⊢
  obtain ⟨_, _, M7, _⟩ := M
  have F3 := F2.below M7
  have hB3 := below_then hB2 M7
  clear F2 hB2 M7 q0 q2 q3
  generalize w2.heap.size = T at ⊢
  have p1 := F3.a 1; have f1 := F3.fa 1
  have q0 := F3.b 0; have q2 := F3.b 2
  simp only [Ak.cs, Rc.cs, List.getElem?_cons_zero, List.getElem?_cons_succ] at p1 q0 q2
  have hle : (decide (E < f)) = false := by rw [decide_eq_false_iff_not]; omega
  go_upto_region 10 with fail
  have F4 := four_set F3 (i := 1) (by simp) (.int .i64 E)
  have hB4 := hB3.setCell (p := ⟨N, 1, none⟩) hNle (.int .i64 E)
  generalize w3.setCell ⟨N, 1, none⟩ (.int .i64 E) = w4 at F4 hB4 ⊢
  clear F3 hB3 p1 f1 q0 q2
  have p0 := F4.a 0; have p1 := F4.a 1; have p2 := F4.a 2; have p3 := F4.a 3; have p4 := F4.a 4; have p5 := F4.a 5; have p6 := F4.a 6; have p7 := F4.a 7; have p8 := F4.a 8; have p9 := F4.a 9
  have c0 := F4.c 0; have c1 := F4.c 1; have c2 := F4.c 2; have c3 := F4.c 3; have c4 := F4.c 4; have c5 := F4.c 5; have c6 := F4.c 6; have c7 := F4.c 7; have c8 := F4.c 8; have c9 := F4.c 9
  have d0 := F4.d 0; have d1 := F4.d 1; have d2 := F4.d 2; have d3 := F4.d 3; have d4 := F4.d 4; have d5 := F4.d 5; have d6 := F4.d 6; have d7 := F4.d 7; have d8 := F4.d 8; have d9 := F4.d 9; have d10 := F4.d 10; have d11 := F4.d 11; have d12 := F4.d 12
  have fc0 := F4.fc 0; have fc1 := F4.fc 1; have fc2 := F4.fc 2; have fc3 := F4.fc 3; have fc4 := F4.fc 4; have fc5 := F4.fc 5; have fc6 := F4.fc 6; have fc7 := F4.fc 7; have fc8 := F4.fc 8; have fc9 := F4.fc 9
  have fd0 := F4.fd 0; have fd1 := F4.fd 1; have fd2 := F4.fd 2; have fd3 := F4.fd 3; have fd4 := F4.fd 4; have fd5 := F4.fd 5; have fd6 := F4.fd 6; have fd7 := F4.fd 7; have fd8 := F4.fd 8; have fd9 := F4.fd 9; have fd10 := F4.fd 10; have fd11 := F4.fd 11; have fd12 := F4.fd 12
  simp only [Rc.cs, sayL, List.getElem?_cons_zero, List.getElem?_cons_succ, List.set_cons_zero, List.set_cons_succ] at p0 p1 p2 p3 p4 p5 p6 p7 p8 p9 c0 c1 c2 c3 c4 c5 c6 c7 c8 c9 d0 d1 d2 d3 d4 d5 d6 d7 d8 d9 d10 d11 d12
  clear hle heq
  go_region
  go_wp2_with fail
  have st4 := there_of F4.c F4.fc (n := 10) rfl
  have st5 := there_of F4.d F4.fd (n := 13) rfl
  obtain ⟨x1, x2⟩ := two_stores (c4 := (fenceR ⟨u, f, ⟨de, ds⟩, b, o, ⟨ie, is⟩, m, s⟩ E).cs) (c5 := sayL 1 E (fenceR ⟨u, f, ⟨de, ds⟩, b, o, ⟨ie, is⟩, m, s⟩ E)) st4 st5 (by omega)
  have x5 : Below w.heap.size w ((w4.setCells (N + 1 + 1) 0 (fenceR ⟨u, f, ⟨de, ds⟩, b, o, ⟨ie, is⟩, m, s⟩ E).cs).setCells (N + 1 + 1 + 1) 0 (sayL 1 E (fenceR ⟨u, f, ⟨de, ds⟩, b, o, ⟨ie, is⟩, m, s⟩ E))) := BRow.setCells_below _ (by omega) _ _ _ (BRow.setCells_below _ (by omega) _ _ _ hB4)
  generalize hW : (((((((((((((((((((((((w4.setCell ⟨N + 1 + 1, 0, none⟩ (.bool u)).setCell ⟨N + 1 + 1, 1, none⟩ (.int .i64 E)).setCell ⟨N + 1 + 1, 2, none⟩ (.int .i64 de)).setCell ⟨N + 1 + 1, 3, none⟩ (.int .i64 ds)).setCell ⟨N + 1 + 1, 4, none⟩ (.string b)).setCell ⟨N + 1 + 1, 5, none⟩ (.bool o)).setCell ⟨N + 1 + 1, 6, none⟩ (.int .i64 ie)).setCell ⟨N + 1 + 1, 7, none⟩ (.int .i64 is)).setCell ⟨N + 1 + 1, 8, none⟩ (.int .i64 m)).setCell ⟨N + 1 + 1, 9, none⟩ (.string s)).setCell ⟨N + 1 + 1 + 1, 0, none⟩ (.int .i64 1)).setCell ⟨N + 1 + 1 + 1, 1, none⟩ (.int .i64 E)).setCell ⟨N + 1 + 1 + 1, 2, none⟩ (.int .i64 0)).setCell ⟨N + 1 + 1 + 1, 3, none⟩ (.bool u)).setCell ⟨N + 1 + 1 + 1, 4, none⟩ (.int .i64 E)).setCell ⟨N + 1 + 1 + 1, 5, none⟩ (.int .i64 de)).setCell ⟨N + 1 + 1 + 1, 6, none⟩ (.int .i64 ds)).setCell ⟨N + 1 + 1 + 1, 7, none⟩ (.string b)).setCell ⟨N + 1 + 1 + 1, 8, none⟩ (.bool o)).setCell ⟨N + 1 + 1 + 1, 9, none⟩ (.int .i64 ie)).setCell ⟨N + 1 + 1 + 1, 10, none⟩ (.int .i64 is)).setCell ⟨N + 1 + 1 + 1, 11, none⟩ (.int .i64 m)).setCell ⟨N + 1 + 1 + 1, 12, none⟩ (.string s)) = W9
  have hW2 : (w4.setCells (N + 1 + 1) 0 (fenceR ⟨u, f, ⟨de, ds⟩, b, o, ⟨ie, is⟩, m, s⟩ E).cs).setCells (N + 1 + 1 + 1) 0 (sayL 1 E (fenceR ⟨u, f, ⟨de, ds⟩, b, o, ⟨ie, is⟩, m, s⟩ E)) = W9 := by
    rw [← hW]
    simp only [World.setCells, Nat.zero_add, Nat.reduceAdd]
  rw [hW2] at x1 x2 x5
  clear hW hW2
  exact bodyPost_ret (res36 rfl rfl (fun j v hv => x1 j v hv) (fun j v hv => x2 j v hv) rfl rfl) rfl ⟨rfl, x5.drew⟩
end Go.Proofs.Ytaeeflfhjmjpjaa
