/- The walk of UpdateOwn. (Its beginning is printed by u_template.py.) -/
import Derived.Test.YtaeeflfhjmjpjaaUownP
import Derived.Test.YtaeeflfhjmjpjaaUargs
namespace Go.Proofs.Ytaeeflfhjmjpjaa
open Go.RowKit SlRd
set_option linter.unusedVariables false

set_option maxRecDepth 100000 in
set_option maxHeartbeats 3200000 in
theorem updateOwn_walk (x : Rw) (vt : Value) (w : World) (hr : Rd w 1 vt x.texts.length (x.texts.map Value.string)) (hx : x.ok) (hrl : x.texts.length ≤ 140737488351232) :
    Calls Try.prog 13 #[.agg #[.int .i64 x.stripe, .int .i64 x.mask, .int .i64 x.epoch, .int .i64 x.seq, vt]] w fun e w' => e = .returned (.bool true) ∧ Below w.heap.size w w' := by
  have hfits := fits_of x
  have HFIT := Lib.hid (fun W h => fit_any x hx vt W h hrl)
  obtain ⟨xs, xm, xe, xq, xt⟩ := x
  simp only at HFIT hr hrl ⊢
  generalize fS ⟨xs, xm, xe, xq, xt⟩ = S at HFIT hfits
  generalize fE ⟨xs, xm, xe, xq, xt⟩ = E at HFIT hfits
  generalize fQ ⟨xs, xm, xe, xq, xt⟩ = Q at HFIT hfits
  generalize fC ⟨xs, xm, xe, xq, xt⟩ = C at HFIT hfits
  generalize fB ⟨xs, xm, xe, xq, xt⟩ = L at HFIT hfits
  have hn6 := hfits.len
  have hn0 := hfits.n0
  have HFITS := Lib.hid hfits
  clear hfits hx
  go_enter Try.func13, Try.ntmps13
  go_upto_region 1 with fail
  have bX := Blk.new w 53 #[.int .i64 xs, .int .i64 xm, .int .i64 xe, .int .i64 xq, vt]
  have hbX := (Below.refl w.heap.size w).alloc (Nat.le_refl _) (.cells #[.int .i64 xs, .int .i64 xm, .int .i64 xe, .int .i64 xq, vt] 53)
  have hrX := hr.below hbX
  generalize w.alloc (.cells #[.int .i64 xs, .int .i64 xm, .int .i64 xe, .int .i64 xq, vt] 53) = wX at bX hbX hrX ⊢
  generalize w.heap.size = X at bX ⊢
  have HWX := Lib.hid hbX
  clear hr hbX
  go_wp2_with fail
  refine (awake16_any _).mono ?_; rintro e w1 ⟨rfl, hb1⟩
  have bX1 : Blk w1 X 53 _ := (hb1.block X bX.lt).trans bX
  have hr1 := hrX.below hb1
  have HW1 := Lib.hid (below_then HWX.out hb1)
  have t0 := bX1.cell 0; have t1 := bX1.cell 1; have t2 := bX1.cell 2; have t3 := bX1.cell 3; have t4 := bX1.cell 4
  simp only [List.getElem?_toArray, List.getElem?_cons_zero, List.getElem?_cons_succ] at t0 t1 t2 t3 t4
  have hs01 := HW1.out.size
  clear bX hb1 hrX bX1 HWX
  go_wp2_with fail
  refine (HFIT.out _ hr1).mono ?_; rintro e w2 ⟨vc, vl, rfl, oc, ol, hb2⟩
  obtain ⟨ac, cc, rfl⟩ : ∃ a c, vc = .slice a C.length c := by obtain ⟨_, a, c, hv, _⟩ := Rd.of_owns oc; exact ⟨a, c, hv⟩
  obtain ⟨al, cl, rfl⟩ : ∃ a c, vl = .slice a C.length c := by obtain ⟨_, a, c, hv, _⟩ := Rd.of_owns ol; exact ⟨a, c, hv⟩
  have HW2 := Lib.hid (below_then HW1.out hb2)
  clear hr1 hb2 t0 t1 t2 t3 t4 HW1
  go_upto_region 3 with fail
  have bT := Blk.new w2 34 #[.int .i64 E, .int .i64 Q]
  have oc3 := oc.alloc (.cells #[.int .i64 E, .int .i64 Q] 34)
  have ol3 := ol.alloc (.cells #[.int .i64 E, .int .i64 Q] 34)
  have HW3 := Lib.hid (below_al HW2.out (.cells #[.int .i64 E, .int .i64 Q] 34))
  generalize w2.alloc (.cells #[.int .i64 E, .int .i64 Q] 34) = w3 at bT oc3 ol3 HW3 ⊢
  generalize w2.heap.size = T at bT ⊢
  clear oc ol HW2
  have t0 := bT.cell 0; have t1 := bT.cell 1
  simp only [List.getElem?_toArray, List.getElem?_cons_zero, List.getElem?_cons_succ] at t0 t1
  have rc3 := Rd.of_owns oc3
  have rl3 := Rd.of_owns ol3
  go_wp2_with fail
  refine (newW HFITS.out (.slice ac C.length cc) (.slice al C.length cl) w3 rc3 (by rw [HFITS.out.n]; exact rl3) w HW3.out).mono ?_; rintro e w4 ⟨B, v, rfl, hU, hb4, hB4, hv4⟩
  have hpl := parts_len HFITS.out
  have HPL := Lib.hid hpl
  clear t0 t1 hpl
  go_wp2_with fail
  obtain ⟨hst, hta⟩ := new_st HFITS.out
  refine (asksW hU (by rw [HPL.out]; omega)).mono ?_; rintro e w5 ⟨va, vp, rfl, oa, op, hU5, ht5⟩
  have hlenT : (toAsk (newU S E Q C L)).length = C.length := by rw [hta, HPL.out]
  have HAG := Lib.hid (fun W B' v' (h : UW w W B' v' (begun (newU S E Q C L))) => asksW h (by rw [begun_parts, HPL.out]; omega))
  have hT2 : toAsk (begun (newU S E Q C L)) = toAsk (newU S E Q C L) := rfl
  have hK2 : ((toAsk (begun (newU S E Q C L))).map fun p => askU (begun (newU S E Q C L)) p (stU (begun (newU S E Q C L)))) = (toAsk (newU S E Q C L)).map fun p => askU (newU S E Q C L) p (stU (newU S E Q C L)) := rfl
  rw [hK2] at HAG
  rw [hT2] at HAG
  have oc5 := hU.keep ht5 (owns_below oc3 hb4) (by decide) (by decide)
  have ol5 := hU.keep ht5 (owns_below ol3 hb4) (by decide) (by decide)
  have hs45 := ht5.size
  have hw4 := hU.w.size
  have hbl4 := hb4.size
  clear hta hT2 hK2 hst ht5
  generalize toAsk (newU S E Q C L) = TA at oa op hlenT HAG
  generalize hAK : (fun p => askU (newU S E Q C L) p (stU (newU S E Q C L))) = AK at op HAG
  generalize begun (newU S E Q C L) = U1 at hU5 HAG
  clear hAK
  rw [hlenT] at oa op HAG
  obtain ⟨gc, cc', hvc, hgc1, hgc2⟩ := World.ownsRow.form oc3 (by omega)
  cases hvc
  obtain ⟨gl, cl', hvl, hgl1, hgl2⟩ := World.ownsRow.form ol3 (by omega)
  cases hvl
  obtain ⟨ga, ca, rfl, hga1, hga2⟩ := World.ownsRow.form oa (by omega)
  obtain ⟨gp, cp, rfl, hgp1, hgp2⟩ := World.ownsRow.form op (by omega)
  have ra := Rd.of_owns oa
  have rp := Rd.of_owns op
  have hz : ((C.length : Int) != (C.length : Int)) = false := by simp
  have HMP : Hid (∀ u ∈ (TA.map AK).flatMap Ak.cs, u.oneCell' = true) := Lib.hid (by
    intro u hu
    obtain ⟨q, _, hq⟩ := List.mem_flatMap.1 hu
    exact ak_cells q u hq)
  have HMA : Hid (∀ u ∈ colsOf TA, u.oneCell' = true) := Lib.hid (by
    intro u hu
    obtain ⟨q, _, rfl⟩ := List.mem_map.1 hu
    rfl)
  clear oc3 ol3 hb4 hU
  go_wp2_with (at_builtin; refine wpList_app ap23 (by rfl) _ _ rfl w5 (Below.refl _ _) (.slice none 0 0) 0 [] rfl (World.ownsRow_nil _ _ _ _) (some ⟨ga, 0, none⟩) C.length ca (colsOf TA) rfl ra HMA.out (by unfold maxLen; omega) (by omega) ?_)
  intro vx w6 ox _ hb6
  have rp6 := rp.below hb6
  go_wp2_with (at_builtin; refine wpList_app ap29 (by rfl) _ _ rfl w6 (Below.refl _ _) (.slice none 0 0) 0 [] rfl (World.ownsRow_nil _ _ _ _) (some ⟨gp, 0, none⟩) C.length cp ((TA.map AK).flatMap Ak.cs) rfl rp6 HMP.out (by unfold maxLen; omega) (by omega) ?_)
  intro vy w7 oy _ hb7
  obtain ⟨gx, cx, rfl, hgx1, hgx2⟩ := World.ownsRow.form ox (by omega)
  obtain ⟨gy, cy, rfl, hgy1, hgy2⟩ := World.ownsRow.form oy (by omega)
  have hb57 := below_then hb6 hb7
  have hs56 := hb6.size
  have HO : Own6 w B v U1 C.length gc gl ga gp gx gy cc cl ca cp cx cy w5.heap.size w6.heap.size (colsOf TA) ((TA.map AK).flatMap Ak.cs) w7 :=
    ⟨hU5.below hb57, ⟨_, owns_base (owns_below oc5 hb57)⟩, ⟨_, owns_base (owns_below ol5 hb57)⟩, ⟨_, owns_base (owns_below oa hb57)⟩, ⟨_, owns_base (owns_below op hb57)⟩, by simpa using owns_below ox hb7, by simpa using oy, by omega, by omega, by omega, by omega, by omega, by omega, by omega, by omega⟩
  have HOH := Lib.hid HO
  clear HO ra rp rp6 hb57 hb6 hb7 ox oy oa op oc5 ol5 hU5
  go_wp2_with fail
  go_loopw [14] (fun i wr => ∃ k : Nat, k ≤ C.length ∧ i = .int .i64 k ∧ Hid (Own6 w B v U1 C.length gc gl ga gp gx gy cc cl ca cp cx cy w5.heap.size w6.heap.size (colsOf TA) ((TA.map AK).flatMap Ak.cs) wr)) (fun i _ => C.length - (intOf i).toNat)
  case atStart => exact ⟨0, Nat.zero_le _, rfl, HOH⟩
  case round =>
    clear HOH
    obtain ⟨k, hk, rfl, HO⟩ := hrel
    by_cases hlt : k < C.length
    · obtain ⟨xs1, hc1⟩ := HO.out.c
      obtain ⟨⟨u1, z1⟩, f1⟩ := own_at hc1 k (by omega)
      have i1 : (0 : Int) ≤ (k : Int) := by omega
      have i2 : (k : Int) < (C.length : Int) := by omega
      go_upto_region 15 with fail
      have HA : Own6 w B v U1 C.length gc gl ga gp gx gy cc cl ca cp cx cy w5.heap.size w6.heap.size (colsOf TA) ((TA.map AK).flatMap Ak.cs) (wr.setCell ⟨gc, k, none⟩ (.int .i64 7)) := HO.out.store gc k [.int .i64 7] (.inl rfl)
      generalize wr.setCell ⟨gc, k, none⟩ (.int .i64 7) = wA at HA ⊢
      have HA := Lib.hid HA
      clear hc1 z1 f1 HO
      obtain ⟨xs2, hc2⟩ := HA.out.l
      obtain ⟨⟨u2, z2⟩, f2⟩ := own_at hc2 k (by omega)
      go_upto_region 16 with fail
      have HB : Own6 w B v U1 C.length gc gl ga gp gx gy cc cl ca cp cx cy w5.heap.size w6.heap.size (colsOf TA) ((TA.map AK).flatMap Ak.cs) (wA.setCell ⟨gl, k, none⟩ (.string ⟨#[120]⟩)) := HA.out.store gl k [.string ⟨#[120]⟩] (.inr (.inl rfl))
      generalize wA.setCell ⟨gl, k, none⟩ (.string ⟨#[120]⟩) = wB at HB ⊢
      have HB := Lib.hid HB
      clear hc2 z2 f2 HA
      obtain ⟨xs3, hc3⟩ := HB.out.a
      obtain ⟨⟨u3, z3⟩, f3⟩ := own_at hc3 k (by omega)
      go_upto_region 17 with fail
      have HC : Own6 w B v U1 C.length gc gl ga gp gx gy cc cl ca cp cx cy w5.heap.size w6.heap.size (colsOf TA) ((TA.map AK).flatMap Ak.cs) (wB.setCell ⟨ga, k, none⟩ (.int .i64 9)) := HB.out.store ga k [.int .i64 9] (.inr (.inr (.inl rfl)))
      generalize wB.setCell ⟨ga, k, none⟩ (.int .i64 9) = wC at HC ⊢
      have HC := Lib.hid HC
      clear hc3 z3 f3 HB
      obtain ⟨xs4, hc4⟩ := HC.out.p
      have hth := own_there hc4 (k * 9) 9 (by omega)
      have HD := Lib.hid (HC.out.store gp (k * 9) (⟨0, 0, 0, 0, 0, 0, ⟨0, 0⟩, ⟨#[]⟩⟩ : Ak).cs (.inr (.inr (.inr rfl))))
      clear hc4 HC
      go_wp2_with (refine wpList_store_mid rfl 43 (.tmp 82) (.tmp 81) rfl gp (k * 9) (⟨0, 0, 0, 0, 0, 0, ⟨0, 0⟩, ⟨#[]⟩⟩ : Ak).cs.toArray rfl rfl ?_ ?_ (ak_one' ⟨0, 0, 0, 0, 0, 0, ⟨0, 0⟩, ⟨#[]⟩⟩) ?_; exact hth; exact size43)
      go_roundw
      case rel => exact ⟨k + 1, by omega, by go_num, HD⟩
      case measure => simp [intOf]; omega
    · obtain rfl : k = C.length := by omega
      have hU := HO.out.u
      have rx := Rd.of_owns HO.out.x
      have ry := Rd.of_owns HO.out.y
      have ox := HO.out.x
      have oy := HO.out.y
      clear HO
      go_wp2_with fail
      refine (HAG.out _ _ _ hU).mono ?_; rintro e w8 ⟨vb, vq, rfl, ob, oq, hU8, ht8⟩
      have rx8 := Rd.of_owns (hU.keep ht8 ox (by decide) (by decide))
      have ry8 := Rd.of_owns (hU.keep ht8 oy (by decide) (by decide))
      have rb := Rd.of_owns ob
      have rq := Rd.of_owns oq
      clear hU ox oy rx ry ob oq ht8
      have hIV : colsOf TA = IV (TA.map Pt.col) := by unfold colsOf IV; rw [List.map_map]; rfl
      rw [hIV] at rx8 rb
      go_wp2_with fail
      refine (ints_same (TA.map Pt.col) C.length (by rw [List.length_map, hlenT]) _ _ _ rb rx8 (by omega)).mono ?_; rintro e w9 ⟨rfl, hb9⟩
      have rq9 := rq.below hb9
      have ry9 := ry8.below hb9
      have hU9 := hU8.below hb9
      clear rx8 rb rq ry8 hb9 hU8
      have HAS := Lib.hid (fun W v1 v2 (h1 : Rd W 9 v1 C.length ((TA.map AK).flatMap Ak.cs)) (h2 : Rd W 9 v2 C.length ((TA.map AK).flatMap Ak.cs)) => asks38_any (TA.map AK) (TA.map AK) v1 v2 W (by rw [List.length_map, hlenT]; exact h1) (by rw [List.length_map, hlenT]; exact h2) (by rw [List.length_map]; omega) (by rw [List.length_map]; omega))
      go_wp2_with fail
      refine (HAS.out _ _ _ rq9 ry9).mono ?_; rintro e w10 ⟨rfl, hb10⟩
      have HBF := Lib.hid (hU9.below hb10).w
      clear rq9 ry9 hU9 hb10
      go_wp2_with fail
      go_ret
      exact ⟨rfl, HBF.out⟩
end Go.Proofs.Ytaeeflfhjmjpjaa
