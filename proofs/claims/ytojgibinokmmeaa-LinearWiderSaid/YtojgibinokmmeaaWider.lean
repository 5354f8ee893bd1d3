/- The walk of LinearWider. -/
import Derived.Test.YtojgibinokmmeaaApp
import Derived.Test.YtojgibinokmmeaaWid
import Derived.Test.YtojgibinokmmeaaStore
import Derived.Deep.RegionHeld3
import Derived.Deep.RegionLaw
import Derived.Deep.DrawnRows
namespace Go.Proofs.Ytojgibinokmmeaa
open Go.RowKit SlRd Lin
set_option linter.unusedVariables false
attribute [local go_sem ↓] Go.wp_at_zero Go.wp_at_succ

theorem evsOf_bd (raw : List Raw) (m : Nat) : ∀ x ∈ evsOf raw m, 1 ≤ x.begin_ ∧ x.begin_ ≤ 100 ∧ 0 ≤ x.end_ ∧ x.end_ ≤ 100 := by
  intro x hx
  obtain ⟨y, _, rfl⟩ := List.mem_map.1 hx
  have b1 := pk_bd y.begin_ 20 (by omega)
  have b2 := pk_bd y.long 8 (by omega)
  unfold evOf
  simp only
  split <;> omega
theorem set_same {ls : List Lin.Ev} {k : Nat} {x : Lin.Ev} (h : ls[k]? = some x) : ls.set k x = ls := by
  obtain ⟨hlt, he⟩ := List.getElem?_eq_some_iff.1 h
  rw [← he, List.set_getElem_self hlt]

set_option maxRecDepth 100000 in
set_option maxHeartbeats 6400000 in
theorem linearWider_walk (raw : List Raw) (vr : Value) (later : List Int) (vl : Value) (more : Raw) (w : World) (hr : Rd w 5 vr raw.length (raw.flatMap Raw.cs)) (hok : ∀ x ∈ raw, x.ok) (hrl : raw.length ≤ 140737488351232)
    (hl : Rd w 1 vl later.length (later.map (Value.int .i64))) (hlk : ∀ a ∈ later, -9223372036854775808 ≤ a ∧ a ≤ 9223372036854775807) (hll : later.length ≤ 140737488351232) (hmo : more.ok) :
    Calls Try.prog 6 #[vr, vl, .agg #[.int .i64 more.kind, .int .i64 more.letter, .int .i64 more.begin_, .int .i64 more.long, .int .i64 more.how]] w fun e w' => e = .returned (.bool true) ∧ Below w.heap.size w w' := by
  obtain ⟨a1, c1, rfl⟩ : ∃ a c, vl = .slice a later.length c := by obtain ⟨_, a, c, rfl, _⟩ := hl; exact ⟨_, _, rfl⟩
  have HEV := Lib.hid (events9 raw vr hok hrl)
  have hl9 : (evsOf raw 9).length ≤ 9 := by rw [evsOf_length]; omega
  have HBD := Lib.hid (evsOf_bd raw 9)
  generalize evsOf raw 9 = l at HEV hl9 HBD
  have HOK := Lib.hid hlk
  have HRW := Lib.hid (raw_any more hmo)
  generalize evOf more = E at HRW
  obtain ⟨rk, rl, rb, rg, rh⟩ := more
  simp only at HRW
  have HP9 : Hid (∀ (c : Int), (-9223372036854775808 ≤ c ∧ c ≤ 9223372036854775807) → ∀ W, Calls Try.prog 12 #[.int .i64 c, .int .i64 9] W fun e w' => e = .returned (.int .i64 (pk c 9)) ∧ W = w') := Lib.hid fun c hc W => pick_any c 9 hc (by omega) (by omega) W
  have HP5 : Hid (∀ (c : Int), (-9223372036854775808 ≤ c ∧ c ≤ 9223372036854775807) → ∀ W, Calls Try.prog 12 #[.int .i64 c, .int .i64 5] W fun e w' => e = .returned (.int .i64 (pk c 5)) ∧ W = w') := Lib.hid fun c hc W => pick_any c 5 hc (by omega) (by omega) W
  clear hok hlk hmo
  go_enter Try.func6, Try.ntmps6
  go_upto_region 1 with fail
  have hb0 := (Below.refl w.heap.size w).alloc (Nat.le_refl _) (.cells #[.int .i64 rk, .int .i64 rl, .int .i64 rb, .int .i64 rg, .int .i64 rh] 39)
  have bM := Blk.new w 39 #[.int .i64 rk, .int .i64 rl, .int .i64 rb, .int .i64 rg, .int .i64 rh]
  have hr0 := hr.below hb0
  have hl0 := hl.below hb0
  generalize w.alloc (.cells #[.int .i64 rk, .int .i64 rl, .int .i64 rb, .int .i64 rg, .int .i64 rh] 39) = w0 at hb0 bM hr0 hl0 ⊢
  generalize w.heap.size = M at bM ⊢
  have HB0 := Lib.hid hb0
  clear hr hl hb0
  go_wp2_with fail
  refine (awake_any _).mono ?_; rintro e w1 ⟨rfl, hb1⟩
  go_wp2_with fail
  refine (HEV.out _ (hr0.below hb1)).mono ?_; rintro e w2 ⟨v2, rfl, own2, hb2⟩
  have r2 := Rd.of_owns own2
  obtain ⟨al, cl, rfl⟩ : ∃ a c, v2 = .slice a l.length c := by obtain ⟨_, a, c, hv, _⟩ := r2; exact ⟨a, c, hv⟩
  have hb02 := below_then hb1 hb2
  have hk1 := Lib.hid (fun W (h : Rd W 8 (.slice al l.length cl) l.length (l.flatMap Ecs)) => check_any ⟨#[]⟩ h (by omega))
  clear own2 hb1 hb2 hr0
  go_wp2_with fail
  refine (hk1.out _ r2).mono ?_; rintro e w3 ⟨rfl, hb3⟩
  have hb03 := below_then hb02 hb3
  have r3 := r2.below hb3
  clear hb02 hb3 r2 hk1
  by_cases hc : chk ⟨#[]⟩ l = true
  · rw [hc]
    have HC := Lib.hid hc
    clear hc
    have hl3 := hl0.below hb03
    have bM3 : Blk w3 M 39 _ := (hb03.block M bM.lt).trans bM
    generalize hn : l.length = n at r3 hl9
    have HN := Lib.hid hn
    clear hn hl0 bM
    go_wp2_with (at_builtin; refine wpList_ev (by rfl) _ _ rfl w3 (Below.refl _ _) (.slice none 0 0) 0 [] rfl (World.ownsRow_nil _ _ _ _) al n cl l rfl r3 (by omega) ?_)
    intro v4 w4 own4 _ hb4
    have own4' : ∃ ls : List Lin.Ev, ls.length = n ∧ w4.ownsRow w3.heap.size 31 8 v4 n (ls.flatMap Ecs) ∧ Hid (UW l 0 ls) := ⟨l, HN.out, by simpa using own4, Lib.hid (UW.start l)⟩
    obtain ⟨aw, cw, rfl⟩ : ∃ a c, v4 = .slice a n c := by obtain ⟨_, a, c, hv, _⟩ := Rd.of_owns own4; exact ⟨a, c, by simpa using hv⟩
    clear own4
    go_wp2_with fail
    go_loopw [10] (fun i wr => ∃ k : Nat, k ≤ n ∧ k ≤ later.length ∧ i = .int .i64 k ∧ (∃ ls : List Lin.Ev, ls.length = n ∧ wr.ownsRow w3.heap.size 31 8 (.slice aw n cw) n (ls.flatMap Ecs) ∧ Hid (UW l k ls)) ∧ Below w3.heap.size w3 wr) (fun i _ => n - (intOf i).toNat)
    case atStart => exact ⟨0, Nat.zero_le _, Nat.zero_le _, rfl, own4', hb4⟩
    case round =>
      clear own4' hb4
      obtain ⟨k, hk, hkl, rfl, ⟨ls, hls, own1, HU⟩, hb⟩ := hrel
      by_cases hlt : k < n ∧ k < later.length
      · obtain ⟨hlt, hlt2⟩ := hlt
        obtain ⟨x, hx⟩ : ∃ x, ls[k]? = some x := ⟨_, List.getElem?_eq_getElem (by omega)⟩
        have hxl := HU.out.r k (Nat.le_refl _)
        rw [hx] at hxl
        have HBX := HBD.out x (List.mem_of_getElem? hxl.symm)
        obtain ⟨bl, ol, rfl, hbl, hcl⟩ := (hl3.below hb).at1 k hlt2
        rw [List.getElem?_map, List.getElem?_eq_getElem hlt2] at hcl
        have hcb := HOK.out _ (List.getElem_mem hlt2)
        have HCL := Lib.hid (fun (W : World) (h : W.cell? ⟨bl, ol + k, none⟩ = (later.map (Value.int .i64))[k]?) => h.trans (show (later.map (Value.int .i64))[k]? = some (.int .i64 later[k]) by rw [List.getElem?_map, List.getElem?_eq_getElem hlt2]; rfl))
        generalize later[k] = c at hcl hcb HCL
        obtain ⟨g, c', hv, hg1, hg2⟩ := own_head own1 (by omega)
        cases hv
        have hc0 := own_cells own1 k x hx (by omega)
        have HUS := Lib.hid (HU.out.step hx (WW.of_wd (p := pk c 5) (q := pk c 9) HBX.2.2.1 (pk_bd c 5 (by omega)).1 (pk_bd c 9 (by omega)).1))
        have b9 := pk_bd c 9 (by omega)
        have b5 := pk_bd c 5 (by omega)
        obtain ⟨xp, xb, xe, ⟨xk, xa, xd⟩, xr, xt⟩ := x
        simp only at HBX
        have p2 := (hc0 2 (by omega)).1; have f2 := (hc0 2 (by omega)).2
        simp only [Ecs, List.getElem?_cons_zero, List.getElem?_cons_succ] at p2 f2
        have H9 := Lib.hid (HP9.out c hcb)
        have H5 := Lib.hid (HP5.out c hcb)
        generalize pk c 9 = q9 at HUS b9 H9
        generalize pk c 5 = q5 at HUS b5 H5
        obtain ⟨xe1, hxe1⟩ : ∃ xe1 : Int, xe1 = if xe = 0 then 0 else xe + q9 := ⟨_, rfl⟩
        have HXE := Lib.hid hxe1
        have hxe2 : 0 ≤ xe1 ∧ xe1 ≤ 200 := by rw [hxe1]; split <;> omega
        have i1 : (0 : Int) ≤ (k : Int) := by omega
        have i2 : (k : Int) < (n : Int) := by omega
        have i3 : (k : Int) < (later.length : Int) := by omega
        have q2 := own_store own1 k _ ⟨xp, xb, xe + q9, ⟨xk, xa, xd⟩, xr, xt⟩ 2 (.int .i64 (xe + q9)) hx (by omega) rfl
        have hb6 := hb.setCell (p := ⟨g, k * 8 + 2, none⟩) hg1 (.int .i64 (xe + q9))
        clear hc0 hxe1
        go_upto_if 38 with fail
        go_cut [38] from 39 to 53 (fun _ wx => wx.ownsRow w3.heap.size 31 8 (.slice (some ⟨g, 0, none⟩) n cw) n ((ls.set k ⟨xp, xb, xe1, ⟨xk, xa, xd⟩, xr, xt⟩).flatMap Ecs) ∧ Below w3.heap.size w3 wx)
        case first =>
          by_cases he : xe = 0
          · have hq : (xe != 0) = false := by simpa using he
            go_wp2_with fail
            go_meet
            rw [HXE.out, if_pos he]
            subst he
            rw [set_same hx]
            exact ⟨own1, hb⟩
          · have hq : (xe != 0) = true := by simpa using he
            go_wp2_with fail
            have wq : IntKind.i64.wrap (xe + q9) = xe + q9 := IntWalk.i64_in _ (by omega)
            have Q2 := Lib.hid q2
            have HB6 := Lib.hid hb6
            have O1 := Lib.hid own1
            have HB := Lib.hid hb
            clear q2 hb6 own1 hb
            go_region_law (first
              | (go_simp; go_at_call 12; refine (H9.out _).mono ?_; rintro e w' ⟨rfl, rfl⟩))
            all_goals
              go_wp2_with fail
              go_meet
              rw [HXE.out, if_neg he]
              exact ⟨Q2.out, HB6.out.drew⟩
        case rest =>
          go_wp2_with fail
          obtain ⟨own6, hb6⟩ := hcut
          obtain ⟨b', o', hv', hbl', hcl'⟩ := (hl3.below hb6).at1 k hlt2
          cases hv'
          have hcl2 := HCL.out _ hcl'
          clear own1 hb p2 f2 q2 hbl hcl hcl'
          have hx1 : (ls.set k ⟨xp, xb, xe1, ⟨xk, xa, xd⟩, xr, xt⟩)[k]? = some ⟨xp, xb, xe1, ⟨xk, xa, xd⟩, xr, xt⟩ := List.getElem?_set_self (by omega)
          have hc1 := own_cells own6 k _ hx1 (by simp; omega)
          have p1 := (hc1 1 (by omega)).1; have f1 := (hc1 1 (by omega)).2
          simp only [Ecs, List.getElem?_cons_zero, List.getElem?_cons_succ] at p1 f1
          have q1 := own_store own6 k _ ⟨xp, xb - q5, xe1, ⟨xk, xa, xd⟩, xr, xt⟩ 1 (.int .i64 (xb - q5)) hx1 (by omega) rfl
          rw [List.set_set] at q1
          have Q1 := Lib.hid q1
          have HB7 := Lib.hid (hb6.setCell (p := ⟨g, k * 8 + 1, none⟩) hg1 (.int .i64 (xb - q5)))
          have HU2 : Hid (UW l (k + 1) (ls.set k ⟨xp, xb - q5, xe1, ⟨xk, xa, xd⟩, xr, xt⟩)) := Lib.hid (by rw [HXE.out]; exact HUS.out)
          have hlz : (ls.set k ⟨xp, xb - q5, xe1, ⟨xk, xa, xd⟩, xr, xt⟩).length = n := by rw [List.length_set]; exact hls
          generalize ls.set k ⟨xp, xb - q5, xe1, ⟨xk, xa, xd⟩, xr, xt⟩ = lz at Q1 HU2 hlz
          have HLZ := Lib.hid hlz
          have wq : IntKind.i64.wrap (xb - q5) = xb - q5 := IntWalk.i64_in _ (by omega)
          clear hc1 q1 own6 hb6 hx1 hlz hx hxl HUS
          go_region_law (first
            | (go_simp; go_at_call 12; refine (H5.out _).mono ?_; rintro e w' ⟨rfl, rfl⟩))
          all_goals
            go_wp2_with fail
            go_roundw
            case rel => exact ⟨k + 1, by omega, by omega, by go_num, ⟨lz, HLZ.out, Q1.out, HU2⟩, HB7.out.drew⟩
            case measure => simp [intOf]; omega
      · have hfin : k = n ∨ (k < n ∧ k = later.length) := by omega
        have hW1 := HU.out.chk_ HC.out
        obtain ⟨ep, eb, ee, ⟨ek, ea, ed⟩, er, et⟩ := E
        have hW2 := chk_more (e := ⟨ep, eb, 0, ⟨2, ea, ed⟩, er, et⟩) HC.out (by rw [HN.out]; exact hl9) rfl
        have HK1 : Hid (∀ W v, Rd W 8 v n (ls.flatMap Ecs) → Calls Try.prog 14 #[.string ⟨#[]⟩, v] W fun e w' => e = .returned (.bool true) ∧ Below W.heap.size W w') := Lib.hid fun W v h => by
          rw [← hW1]
          exact check_any ⟨#[]⟩ (by rw [hls]; exact h) (by omega)
        have HK2 : Hid (∀ W v m, m = n + 1 → Rd W 8 v m ((l ++ [(⟨ep, eb, 0, ⟨2, ea, ed⟩, er, et⟩ : Lin.Ev)]).flatMap Ecs) → Calls Try.prog 14 #[.string ⟨#[]⟩, v] W fun e w' => e = .returned (.bool true) ∧ Below W.heap.size W w') := Lib.hid fun W v m hm h => by
          rw [← hW2]
          have hll2 : (l ++ [(⟨ep, eb, 0, ⟨2, ea, ed⟩, er, et⟩ : Lin.Ev)]).length = m := by rw [List.length_append, HN.out, hm]; rfl
          exact check_any ⟨#[]⟩ (by rw [hll2]; exact h) (by omega)
        have bMr : Blk wr M 39 _ := (hb.block M bM3.lt).trans bM3
        have m0 := bMr.cell 0; have m1 := bMr.cell 1; have m2 := bMr.cell 2; have m3 := bMr.cell 3; have m4 := bMr.cell 4
        simp only [List.getElem?_toArray, List.getElem?_cons_zero, List.getElem?_cons_succ] at m0 m1 m2 m3 m4
        have RW := Rd.of_owns own1
        have RL := r3.below hb
        have HB3 := Lib.hid (below_then HB0.out (below_then hb03 hb))
        clear hW1 hW2 own1 hl3 bMr bM3 r3 hb hb03
        rcases hfin with hk1 | ⟨hk0, hk1⟩
        all_goals
          subst hk1
          go_wp2_with fail
          refine (HRW.out _).mono ?_; rintro e w5 ⟨rfl, hb5⟩
          have hb6 := (below_then hb5 ((Below.refl _ w5).alloc (Nat.le_refl _) (.cells #[.int .i64 ep, .int .i64 eb, .int .i64 ee, .int .i64 ek, .int .i64 ea, .string ed, .int .i64 er, .string et] 31)))
          have bN := Blk.new w5 31 #[.int .i64 ep, .int .i64 eb, .int .i64 ee, .int .i64 ek, .int .i64 ea, .string ed, .int .i64 er, .string et]
          have hN : wr.heap.size ≤ w5.heap.size := hb5.size
          go_upto_region 13 with fail
          generalize w5.alloc (.cells #[.int .i64 ep, .int .i64 eb, .int .i64 ee, .int .i64 ek, .int .i64 ea, .string ed, .int .i64 er, .string et] 31) = w6 at hb6 bN ⊢
          generalize w5.heap.size = N at bN hN ⊢
          clear hb5 m0 m1 m2 m3 m4
          have n3 := bN.cell 3; have n2 := bN.cell 2
          simp only [List.getElem?_toArray, List.getElem?_cons_zero, List.getElem?_cons_succ] at n2 n3
          have g3 := bN.frozen 3; have g2 := bN.frozen 2
          go_upto_region 15 with fail
          have bN2 : Blk ((w6.setCell ⟨N, 3, none⟩ (.int .i64 2)).setCell ⟨N, 2, none⟩ (.int .i64 0)) N 31 #[.int .i64 ep, .int .i64 eb, .int .i64 0, .int .i64 2, .int .i64 ea, .string ed, .int .i64 er, .string et] := (bN.set_ 3 _).set_ 2 _
          have hb7 := (hb6.setCell (p := ⟨N, 3, none⟩) hN (.int .i64 2)).setCell (p := ⟨N, 2, none⟩) hN (.int .i64 0)
          generalize (w6.setCell ⟨N, 3, none⟩ (.int .i64 2)).setCell ⟨N, 2, none⟩ (.int .i64 0) = w7 at bN2 hb7 ⊢
          clear hb6 bN n2 n3 g2 g3
          have FULL : Hid (∀ W, Below w7.heap.size w7 W → W.cell? ⟨N, 0, none⟩ = some (.int .i64 ep) ∧ W.cell? ⟨N, 1, none⟩ = some (.int .i64 eb) ∧ W.cell? ⟨N, 2, none⟩ = some (.int .i64 0) ∧ W.cell? ⟨N, 3, none⟩ = some (.int .i64 2) ∧ W.cell? ⟨N, 4, none⟩ = some (.int .i64 ea) ∧ W.cell? ⟨N, 5, none⟩ = some (.string ed) ∧ W.cell? ⟨N, 6, none⟩ = some (.int .i64 er) ∧ W.cell? ⟨N, 7, none⟩ = some (.string et) ∧ Below w7.heap.size w7 W) := Lib.hid fun W hW => by
            have b := (hW.block N bN2.lt).trans bN2
            exact ⟨Blk.cell (t := 31) b 0, Blk.cell (t := 31) b 1, Blk.cell (t := 31) b 2, Blk.cell (t := 31) b 3, Blk.cell (t := 31) b 4, Blk.cell (t := 31) b 5, Blk.cell (t := 31) b 6, Blk.cell (t := 31) b 7, hW⟩
          have hd := (Below.refl w7.heap.size w7).drew
          have R7 := Lib.hid (RL.below hb7)
          have RW7 := Lib.hid (RW.below hb7)
          have B7 := Lib.hid (below_then HB3.out hb7)
          clear bN2 hb7 RL RW
          go_region_held3 (fun W => W.cell? ⟨N, 0, none⟩ = some (.int .i64 ep) ∧ W.cell? ⟨N, 1, none⟩ = some (.int .i64 eb) ∧ W.cell? ⟨N, 2, none⟩ = some (.int .i64 0) ∧ W.cell? ⟨N, 3, none⟩ = some (.int .i64 2) ∧ W.cell? ⟨N, 4, none⟩ = some (.int .i64 ea) ∧ W.cell? ⟨N, 5, none⟩ = some (.string ed) ∧ W.cell? ⟨N, 6, none⟩ = some (.int .i64 er) ∧ W.cell? ⟨N, 7, none⟩ = some (.string et) ∧ Below w7.heap.size w7 W)
            (first
              | exact FULL.out _ hd
              | (go_split_ands; exact FULL.out _ (by assumption))
              | (go_split_ands; exact FULL.out _ (below_al (by assumption) _)))
            (first
              | ((go_split_ands; refine step_ev (by rfl) _ _ (by rfl) w7 (by assumption) (.slice none 0 0) 0 [] (by rfl) (World.ownsRow_nil _ _ _ _) al _ cl l (by rfl) (R7.out.below (by assumption)) (by omega) ?_; intro vA wA oA gA bA))
              | ((go_split_ands; refine step_ev (by rfl) _ _ (by rfl) w7 (by assumption) _ _ ([] ++ l) (by rfl) (by first | exact oA | exact oA.alloc _) _ 1 1 [⟨ep, eb, 0, ⟨2, ea, ed⟩, er, et⟩] (by rfl) (by first | exact lit_rd _ [⟨ep, eb, 0, ⟨2, ea, ed⟩, er, et⟩] | exact (lit_rd _ [⟨ep, eb, 0, ⟨2, ea, ed⟩, er, et⟩]).below (below_of_grown gA) | exact ((lit_rd _ [⟨ep, eb, 0, ⟨2, ea, ed⟩, er, et⟩]).below ((Below.refl _ _).drew)).below (below_of_grown gA)) (by omega) ?_; intro vC wC oC gC bC))
              | ((go_at_call 14; (first | (refine (HK2.out _ _ _ (by omega) (Rd.of_owns oC)).mono ?_; rintro e w' ⟨rfl, hbI⟩; have bI := bC.trans (hbI.mono bC.size)) | (go_split_ands; refine (HK1.out _ _ (RW7.out.below (by assumption))).mono ?_; rintro e w' ⟨rfl, hbI⟩; have bI := Below.trans (by assumption : Below w7.heap.size w7 _) (hbI.mono (Below.size (by assumption : Below w7.heap.size w7 _))))))))
          all_goals
            go_split_ands
            have HF := B7.out.trans ((by assumption : Below w7.heap.size w7 _).mono B7.out.size)
            go_wp2_with fail
            go_ret
            exact ⟨rfl, HF⟩
  · have hc0 : chk ⟨#[]⟩ l = false := by simpa using hc
    rw [hc0]
    go_wp2_with fail
    go_ret
    exact ⟨rfl, below_then HB0.out hb03⟩
end Go.Proofs.Ytojgibinokmmeaa
