/- The walk of the document's layer 9, Apply, at an ask to settle. -/
import Derived.Test.YtaeeflfhjmjpjaaRule6
import Derived.Test.YtaeeflfhjmjpjaaFour
namespace Go.Proofs.Ytaeeflfhjmjpjaa
open Go.RowKit SlRd
set_option linter.unusedVariables false

@[reducible] def finR (r : Rc) : Rc := ⟨true, r.fence, r.intent, r.staged, false, ⟨0, 0⟩, 0, ⟨#[]⟩⟩
@[reducible] def shutR (r : Rc) : Rc := ⟨true, r.fence, r.done, r.block, false, ⟨0, 0⟩, 0, ⟨#[]⟩⟩
def settleR (r : Rc) (mask : Int) (old : Tg) : Rc := if (r.op && (r.intent.e == old.e && r.intent.s == old.s)) then (if mask = 1 then finR r else shutR r) else r
@[reducible] def sayL (status epoch : Int) (r : Rc) : List Value := [.int .i64 status, .int .i64 epoch, .int .i64 0, .bool r.used, .int .i64 r.fence, .int .i64 r.done.e, .int .i64 r.done.s, .string r.block, .bool r.op, .int .i64 r.intent.e, .int .i64 r.intent.s, .int .i64 r.mask, .string r.staged]

theorem size37 : (Try.prog.info? 37).map (·.size) = some 10 := by kernel_rfl
theorem size68 : (Try.prog.info? 68).map (·.size) = some 13 := by kernel_rfl
theorem rc_one (r : Rc) : (Rc.cs r).toArray.all (fun x => x.oneCell') = true := all_oneCell_toArray (by
  intro v hv
  simp only [Rc.cs, List.mem_cons, List.not_mem_nil, or_false] at hv
  rcases hv with rfl | rfl | rfl | rfl | rfl | rfl | rfl | rfl | rfl | rfl <;> rfl)
theorem say_one (a b : Int) (r : Rc) : (sayL a b r).toArray.all (fun x => x.oneCell') = true := all_oneCell_toArray (by
  intro v hv
  simp only [sayL, List.mem_cons, List.not_mem_nil, or_false] at hv
  rcases hv with rfl | rfl | rfl | rfl | rfl | rfl | rfl | rfl | rfl | rfl | rfl | rfl | rfl <;> rfl)
theorem res36 {W : World} {tmps : Array Value} {n4 n5 : Nat} {c4 c5 : List Value} (h4 : tmps.getD 4 undef = .pointer (some ⟨n4, 0, none⟩)) (h5 : tmps.getD 5 undef = .pointer (some ⟨n5, 0, none⟩)) (r4 : W.rangeAt n4 0 c4) (r5 : W.rangeAt n5 0 c5) (l4 : c4.length = 10) (l5 : c5.length = 13) :
    (results Try.f36 tmps).run Try.prog W = .ok (.tuple #[.agg c4.toArray, .agg c5.toArray]) W := by
  have e4 := run_loadVar_mid (P := Try.prog) W n4 0 37 c4 _ r4 Try.underlying37 rfl (by rw [size37, l4])
  have e5 := run_loadVar_mid (P := Try.prog) W n5 0 68 c5 _ r5 Try.underlying68 rfl (by rw [size68, l5])
  rw [Array.getD_eq_getD_getElem?] at h4 h5
  simp [results, Try.results36, h4, h5, e4, e5, asAddr]

set_option maxRecDepth 100000 in
set_option maxHeartbeats 1600000 in
theorem apply6 (r : Rc) (hr : r.right) (stripe ep mask : Int) (old : Tg) (h1 : 0 ≤ stripe) (h2 : stripe < 8) (h3 : 1 ≤ ep) (h4 : ep ≤ 16777215) (hm : mask = 0 ∨ mask = 1) (h5 : 0 ≤ old.e) (h6 : old.e < ep) (h7 : 0 ≤ old.s) (h8 : old.s ≤ 16777215) (hf : r.fence = ep) (w : World) :
    Calls Try.prog 36 #[r.v, (askSettle stripe ep mask old).v] w fun e w' => e = .returned (.tuple #[(settleR r mask old).v, sayV 1 ep nilRc]) ∧ Below w.heap.size w w' := by
  have HR := Lib.hid (fun W => right_rec r hr W)
  have HQ := Lib.hid (fun W => right6 stripe ep mask old h1 h2 h3 h4 hm h5 h6 h7 h8 W)
  have HB := Lib.hid (fun W => before_any r.done ⟨ep, 0⟩ W)
  have hu := hr.used
  have heq := eqTag
  have HS : Hid (settleR r mask old = if (r.op && (r.intent.e == old.e && r.intent.s == old.s)) then (if mask = 1 then finR r else shutR r) else r) := rfl
  have HF := Lib.hid (fun W => finished_any r W)
  have HC := Lib.hid (fun W => closed_any r W)
  have HY := Lib.hid (fun R W => say_any R 1 W)
  subst hf
  clear hr h1 h2 h3 h4 h5 h6 h7 h8
  generalize settleR r mask old = R at HS ⊢
  obtain ⟨u, f, ⟨de, ds⟩, b, o, ⟨ie, is⟩, m, s⟩ := r
  obtain ⟨oe, os⟩ := old
  simp only at hu HR HQ HB HS HF HC
  subst hu
  go_enter Try.func36, Try.ntmps36
  go_wp2_with fail
  obtain ⟨F0, hb0⟩ := Four.of w (Rc.cs ⟨true, f, ⟨de, ds⟩, b, o, ⟨ie, is⟩, m, s⟩) (Ak.cs (askSettle stripe f mask ⟨oe, os⟩)) nilRc.cs (sayL 0 0 nilRc) 37 43 37 68
  generalize ((((w.alloc (.cells (Rc.cs ⟨true, f, ⟨de, ds⟩, b, o, ⟨ie, is⟩, m, s⟩).toArray 37)).alloc (.cells (Ak.cs (askSettle stripe f mask ⟨oe, os⟩)).toArray 43)).alloc (.cells nilRc.cs.toArray 37)).alloc (.cells (sayL 0 0 nilRc).toArray 68)) = w0 at F0 hb0 ⊢
  generalize hN : w.heap.size = N at F0 ⊢
  have hNle := Nat.le_of_eq hN
  clear hN
  refine (HR.out _).mono ?_; rintro e w1 ⟨rfl, hb1⟩
  have F1 := F0.below hb1
  have hB1 := below_then hb0 hb1
  clear F0 hb0 hb1 HR
  have q0 := F1.b 0; have q1 := F1.b 1; have q2 := F1.b 2; have q3 := F1.b 3; have q4 := F1.b 4; have q5 := F1.b 5; have q6 := F1.b 6; have q7 := F1.b 7; have q8 := F1.b 8
  simp only [Ak.cs, List.getElem?_cons_zero, List.getElem?_cons_succ] at q0 q1 q2 q3 q4 q5 q6 q7 q8
  go_wp2_with fail
  refine (HQ.out _).mono ?_; rintro e w2 ⟨rfl, hb2⟩
  have F2 := F1.below hb2
  have hB2 := below_then hB1 hb2
  clear F1 hB1 hb2 HQ q0 q1 q2 q3 q4 q5 q6 q7 q8
  have p0 := F2.a 0; have p1 := F2.a 1; have p2 := F2.a 2; have p3 := F2.a 3
  have q0 := F2.b 0; have q2 := F2.b 2; have q3 := F2.b 3
  simp only [Ak.cs, Rc.cs, List.getElem?_cons_zero, List.getElem?_cons_succ] at p0 p1 p2 p3 q0 q2 q3
  go_upto_region 6 with fail
  have M := New.of w2 [.int .i64 f, .int .i64 0] 34
  generalize w2.alloc (.cells [.int .i64 f, .int .i64 0].toArray 34) = w3 at M ⊢
  obtain ⟨M5, _, M7, M8⟩ := M
  have F3 := F2.below M7
  have hB3 := below_then hB2 M7
  clear F2 hB2 M7 p0 p1 p2 p3 q0 q2 q3
  generalize w2.heap.size = T at M5 M8 ⊢
  have p0 := F3.a 0; have p1 := F3.a 1; have p2 := F3.a 2; have p3 := F3.a 3
  have q0 := F3.b 0; have q2 := F3.b 2; have q3 := F3.b 3
  have t0 := M5 0; have t1 := M5 1
  simp only [Ak.cs, Rc.cs, List.getElem?_cons_zero, List.getElem?_cons_succ] at p0 p1 p2 p3 q0 q2 q3 t0 t1
  go_wp2_with fail
  refine (HB.out _).mono ?_; rintro e w4 ⟨rfl, hb4⟩
  have F4 := F3.below hb4
  have hB4 := below_then hB3 hb4
  clear F3 hB3 hb4 p0 p1 p2 p3 q0 q2 q3 t0 t1 M5 M8
  have p0 := F4.a 0; have p1 := F4.a 1; have p2 := F4.a 2; have p3 := F4.a 3; have p4 := F4.a 4; have p5 := F4.a 5; have p6 := F4.a 6; have p7 := F4.a 7; have p8 := F4.a 8; have p9 := F4.a 9
  have q0 := F4.b 0; have q4 := F4.b 4; have q6 := F4.b 6; have q7 := F4.b 7
  simp only [Ak.cs, Rc.cs, List.getElem?_cons_zero, List.getElem?_cons_succ] at p0 p1 p2 p3 p4 p5 p6 p7 p8 p9 q0 q4 q6 q7
  go_upto_region 44 with fail
  have fin : ∀ (R : Rc) (W : World), Four N (Rc.cs ⟨true, f, ⟨de, ds⟩, b, o, ⟨ie, is⟩, m, s⟩) (Ak.cs (askSettle stripe f mask ⟨oe, os⟩)) nilRc.cs (sayL 0 0 nilRc) W → Below w.heap.size w W → (W.there (N + 1 + 1) 0 10 ∧ (W.setCells (N + 1 + 1) 0 R.cs).there (N + 1 + 1 + 1) 0 13 ∧
      ((W.setCells (N + 1 + 1) 0 R.cs).setCells (N + 1 + 1 + 1) 0 (sayL 1 f nilRc)).rangeAt (N + 1 + 1) 0 R.cs ∧ ((W.setCells (N + 1 + 1) 0 R.cs).setCells (N + 1 + 1 + 1) 0 (sayL 1 f nilRc)).rangeAt (N + 1 + 1 + 1) 0 (sayL 1 f nilRc) ∧ Below w.heap.size w ((W.setCells (N + 1 + 1) 0 R.cs).setCells (N + 1 + 1 + 1) 0 (sayL 1 f nilRc))) := fun R W F hb => by
    have st4 := there_of F.c F.fc (n := 10) rfl
    have st5 := there_of F.d F.fd (n := 13) rfl
    obtain ⟨x1, x2⟩ := two_stores (c4 := R.cs) (c5 := sayL 1 f nilRc) st4 st5 (by omega)
    exact ⟨st4, World.there_setCells st5 _ _ _, x1, x2, BRow.setCells_below _ (by omega) _ _ _ (BRow.setCells_below _ (by omega) _ _ _ hb)⟩
  have FIN := Lib.hid fin
  clear fin
  cases o
  · go_wp2_with fail
    refine (HY.out (⟨true, f, ⟨de, ds⟩, b, false, ⟨ie, is⟩, m, s⟩) _).mono ?_; rintro e w5 ⟨rfl, hb5⟩
    obtain ⟨g1, g2, g3, g4, g5⟩ := FIN.out (⟨true, f, ⟨de, ds⟩, b, false, ⟨ie, is⟩, m, s⟩) w5 (F4.below hb5) (below_then hB4 hb5)
    clear p0 p1 p2 p3 p4 p5 p6 p7 p8 p9 q0 q4 q6 q7
    go_wp2_with (first | (refine wpList_store_mid rfl 37 (.tmp 4) (.tmp 233) rfl (N + 1 + 1) 0 (⟨true, f, ⟨de, ds⟩, b, false, ⟨ie, is⟩, m, s⟩ : Rc).cs.toArray rfl rfl ?_ ?_ (rc_one (⟨true, f, ⟨de, ds⟩, b, false, ⟨ie, is⟩, m, s⟩ : Rc)) ?_; exact g1; exact size37) | (refine wpList_store_mid rfl 68 (.tmp 5) (.tmp 234) rfl (N + 1 + 1 + 1) 0 (sayL 1 f nilRc).toArray rfl rfl ?_ ?_ (say_one 1 f nilRc) ?_; exact g2; exact size68))
    exact bodyPost_ret (res36 rfl rfl g3 g4 rfl rfl) rfl ⟨by rw [HS.out]; rfl, g5⟩
  · cases hx : (ie == oe && is == os)
    · have HX := Lib.hid hx
      go_wp2_with fail
      refine (HY.out (⟨true, f, ⟨de, ds⟩, b, true, ⟨ie, is⟩, m, s⟩) _).mono ?_; rintro e w5 ⟨rfl, hb5⟩
      obtain ⟨g1, g2, g3, g4, g5⟩ := FIN.out (⟨true, f, ⟨de, ds⟩, b, true, ⟨ie, is⟩, m, s⟩) w5 (F4.below hb5) (below_then hB4 hb5)
      clear p0 p1 p2 p3 p4 p5 p6 p7 p8 p9 q0 q4 q6 q7
      go_wp2_with (first | (refine wpList_store_mid rfl 37 (.tmp 4) (.tmp 233) rfl (N + 1 + 1) 0 (⟨true, f, ⟨de, ds⟩, b, true, ⟨ie, is⟩, m, s⟩ : Rc).cs.toArray rfl rfl ?_ ?_ (rc_one (⟨true, f, ⟨de, ds⟩, b, true, ⟨ie, is⟩, m, s⟩ : Rc)) ?_; exact g1; exact size37) | (refine wpList_store_mid rfl 68 (.tmp 5) (.tmp 234) rfl (N + 1 + 1 + 1) 0 (sayL 1 f nilRc).toArray rfl rfl ?_ ?_ (say_one 1 f nilRc) ?_; exact g2; exact size68))
      exact bodyPost_ret (res36 rfl rfl g3 g4 rfl rfl) rfl ⟨by rw [HS.out]; simp only [HX.out]; rfl, g5⟩
    · have HX := Lib.hid hx
      rcases hm with rfl | rfl
      · go_wp2_with fail
        refine (HC.out _).mono ?_; rintro e w6 ⟨rfl, hb6⟩
        have F6 := F4.below hb6
        have hB6 := below_then hB4 hb6
        go_wp2_with fail
        refine (HY.out (shutR (⟨true, f, ⟨de, ds⟩, b, true, ⟨ie, is⟩, m, s⟩)) _).mono ?_; rintro e w5 ⟨rfl, hb5⟩
        obtain ⟨g1, g2, g3, g4, g5⟩ := FIN.out (shutR (⟨true, f, ⟨de, ds⟩, b, true, ⟨ie, is⟩, m, s⟩)) w5 (F6.below hb5) (below_then hB6 hb5)
        clear p0 p1 p2 p3 p4 p5 p6 p7 p8 p9 q0 q4 q6 q7
        go_wp2_with (first | (refine wpList_store_mid rfl 37 (.tmp 4) (.tmp 229) rfl (N + 1 + 1) 0 (shutR ⟨true, f, ⟨de, ds⟩, b, true, ⟨ie, is⟩, m, s⟩).cs.toArray rfl rfl ?_ ?_ (rc_one (shutR ⟨true, f, ⟨de, ds⟩, b, true, ⟨ie, is⟩, m, s⟩)) ?_; exact g1; exact size37) | (refine wpList_store_mid rfl 68 (.tmp 5) (.tmp 230) rfl (N + 1 + 1 + 1) 0 (sayL 1 f nilRc).toArray rfl rfl ?_ ?_ (say_one 1 f nilRc) ?_; exact g2; exact size68))
        exact bodyPost_ret (res36 rfl rfl g3 g4 rfl rfl) rfl ⟨by rw [HS.out]; simp only [HX.out]; rfl, g5⟩
      · go_wp2_with fail
        refine (HF.out _).mono ?_; rintro e w6 ⟨rfl, hb6⟩
        have F6 := F4.below hb6
        have hB6 := below_then hB4 hb6
        go_wp2_with fail
        refine (HY.out (finR (⟨true, f, ⟨de, ds⟩, b, true, ⟨ie, is⟩, m, s⟩)) _).mono ?_; rintro e w5 ⟨rfl, hb5⟩
        obtain ⟨g1, g2, g3, g4, g5⟩ := FIN.out (finR (⟨true, f, ⟨de, ds⟩, b, true, ⟨ie, is⟩, m, s⟩)) w5 (F6.below hb5) (below_then hB6 hb5)
        clear p0 p1 p2 p3 p4 p5 p6 p7 p8 p9 q0 q4 q6 q7
        go_wp2_with (first | (refine wpList_store_mid rfl 37 (.tmp 4) (.tmp 215) rfl (N + 1 + 1) 0 (finR ⟨true, f, ⟨de, ds⟩, b, true, ⟨ie, is⟩, m, s⟩).cs.toArray rfl rfl ?_ ?_ (rc_one (finR ⟨true, f, ⟨de, ds⟩, b, true, ⟨ie, is⟩, m, s⟩)) ?_; exact g1; exact size37) | (refine wpList_store_mid rfl 68 (.tmp 5) (.tmp 216) rfl (N + 1 + 1 + 1) 0 (sayL 1 f nilRc).toArray rfl rfl ?_ ?_ (say_one 1 f nilRc) ?_; exact g2; exact size68))
        exact bodyPost_ret (res36 rfl rfl g3 g4 rfl rfl) rfl ⟨by rw [HS.out]; simp only [HX.out]; rfl, g5⟩
end Go.Proofs.Ytaeeflfhjmjpjaa
