/- The walk of HistoryOf: its first loop. -/
import Derived.Test.YtmpkcmgdamfaaaaAwake
import Derived.Deep.RegionHeld3
namespace Go.Proofs.Ytmpkcmgdamfaaaa
open Go.RowKit SlRd
set_option linter.unusedVariables false

theorem Own.keep {w W W' : World} {D : Nat → Prop} {H C : Nat} {v : Value} {s s' : List Ev × Int} (h : Own w W D H C v s) (hp : BgP W H C v s' W') {g : Nat} {t : TypeId} {cs : Array Value} (hb : Blk W g t cs) (hd : D g) : Blk W' g t cs := by
  obtain ⟨v', _, ht, _⟩ := hp
  exact h.blk ht hb hd
theorem HI.drew {W : World} {H C : Nat} {v : Value} {evs : List Ev} {t : Int} (h : HI W H C v evs t) : HI W.drew H C v evs t := ⟨h.h, h.c, h.own⟩
theorem Own.drew {w W : World} {D : Nat → Prop} {H C : Nat} {v : Value} {s : List Ev × Int} (h : Own w W D H C v s) : Own w W.drew D H C v s := ⟨h.i.drew, below_drewN h.b 1, h.n, h.d⟩
theorem pk_bd64 (c n : Int) (hn : 0 < n) (h : n ≤ 1000) : -9223372036854775808 ≤ pk c n ∧ pk c n ≤ 9223372036854775807 := by
  have := pk_bd c n hn
  omega
theorem ms_beg (l : List Ac) (k : Nat) (h : k < l.length) (hz : pk l[k].what 2 = 0) : ms (l.take (k + 1)) = bgE (ms (l.take k)) l[k].pilot l[k].op := by
  rw [ms_take l k h, mstep, if_pos hz]
theorem ms_end (l : List Ac) (k : Nat) (h : k < l.length) (hz : ¬ pk l[k].what 2 = 0) : ms (l.take (k + 1)) = enE (ms (l.take k)) (pk l[k].n (1 + (ms (l.take k)).1.length)) l[k].err l[k].data := by
  rw [ms_take l k h, mstep, if_neg hz]
theorem bgE_lt {s : List Ev × Int} (h : s.1.length < 200) (p : Int) (o : Op) : (bgE s p o).1.length = s.1.length + 1 ∧ bgR s = s.1.length := by
  unfold bgE bgR
  rw [if_pos h, if_pos h]
  simp

theorem act_cells {W : World} {X : Nat} {xw xp xn xk xa xe : Int} {xr : Bool} {xd xt : ByteArray} (h : Blk W X 34 #[.int .i64 xw, .int .i64 xp, .int .i64 xn, .bool xr, .int .i64 xk, .int .i64 xa, .string xd, .int .i64 xe, .string xt]) :
    W.cell? ⟨X, 2, none⟩ = some (.int .i64 xn) ∧ W.cell? ⟨X, 7, none⟩ = some (.int .i64 xe) ∧ W.cell? ⟨X, 8, none⟩ = some (.string xt) ∧ Blk W X 34 #[.int .i64 xw, .int .i64 xp, .int .i64 xn, .bool xr, .int .i64 xk, .int .i64 xa, .string xd, .int .i64 xe, .string xt] :=
  ⟨h.cell 2, h.cell 7, h.cell 8, h⟩
theorem ofB_le (b : Int) (evs : List Ev) (j : Nat) : (ofB b (evs.take j)).length ≤ (ofB b evs).length :=
  ((List.take_sublist j evs).filter _).length_le
theorem ofB_at (b : Int) (evs : List Ev) (j : Nat) (h : j < evs.length) (hc : (evs[j].op.at_ == b && cnt evs[j]) = true) : (ofB b (evs.take j)).length < (ofB b evs).length ∧ ∀ hk, (ofB b evs)[(ofB b (evs.take j)).length]'hk = evs[j] := by
  have e : evs = evs.take j ++ evs[j] :: evs.drop (j + 1) := by rw [← List.drop_eq_getElem_cons h, List.take_append_drop]
  have e2 : ofB b evs = ofB b (evs.take j) ++ evs[j] :: ofB b (evs.drop (j + 1)) := by
    unfold ofB
    conv => lhs; rw [e]
    rw [List.filter_append, List.filter_cons, if_pos hc]
  constructor
  · rw [e2]; simp
  · intro hk
    simp only [e2, List.getElem_append_right (Nat.le_refl _), Nat.sub_self, List.getElem_cons_zero]
/-- what the first loop leaves -/
def EndO (w : World) (l : List Ac) (H C : Nat) (wx : World) : Prop := ∃ (s : List Ev × Int) (v : Value), Own w wx (fun _ => False) H C v s ∧ J s ∧ s.1.length ≤ 100
theorem EndO.of {w : World} {l : List Ac} {H C : Nat} {wx : World} {k : Nat} {v : Value} (h1 : k ≤ 100) (h2 : k ≤ l.length) (h3 : k = l.length ∨ k = 100) (h : Own w wx (fun _ => False) H C v (ms (l.take k))) : EndO w l H C wx := by
  have := ms_J l k h2 h1
  exact ⟨_, v, h, this.1, by omega⟩
/-- the loops' relation -/
def RelO (w : World) (l : List Ac) (H C : Nat) (many i : Value) (wr : World) : Prop :=
  ∃ (k : Nat) (v : Value), k ≤ l.length ∧ k ≤ 100 ∧ i = .int .i64 k ∧ many = .int .i64 (ms (l.take k)).1.length ∧ Own w wr (fun _ => False) H C v (ms (l.take k))

set_option maxRecDepth 100000 in
set_option maxHeartbeats 1600000 in
theorem historyOf_walk (l : List Ac) (vl : Value) (block : Int) (w : World) (hl : Rd w 9 vl l.length (l.flatMap Ac.cs)) (hok : ∀ x ∈ l, x.ok) (hll : l.length ≤ 140737488351232) (hbk : -9223372036854775808 ≤ block ∧ block ≤ 9223372036854775807) :
    Calls Try.prog 5 #[vl, .int .i64 block] w fun e w' => e = .returned (.bool true) ∧ Below w.heap.size w w' := by
  obtain ⟨al, cl, rfl⟩ : ∃ a c, vl = .slice a l.length c := by obtain ⟨_, a, c, rfl, _⟩ := hl; exact ⟨_, _, rfl⟩
  have HOK := Lib.hid hok
  clear hok
  go_enter Try.func5, Try.ntmps5
  go_wp2_with fail
  refine (awake_any _).mono ?_; rintro e w1 ⟨rfl, hb1⟩
  go_wp2_with fail
  refine (new_any _).mono ?_; rintro e w2 ⟨H, C, rfl, hi, hb2, hH, hC⟩
  have O2 : Own w w2 (fun _ => False) H C (.slice none 0 0) ([], 0) := Own.made hi (below_then hb1 hb2) (Nat.le_trans hb1.size hH) (Nat.le_trans hb1.size hC)
  clear hi hb1 hb2 hH hC
  go_upto_block 0 with fail
  go_cut [7, 8, 9] from 24 to 60 (fun s7 s8 s9 wx => EndO w l H C wx)
  case first =>
    as_aux_lemma =>
      go_wp2_with fail
      go_loopw [7, 8] (fun m i wr => RelO w l H C m i wr) (fun _ i _ => l.length - (intOf i).toNat)
      case atStart => exact ⟨0, _, Nat.zero_le _, by omega, rfl, by simp [ms], by simpa [ms] using O2⟩
      case round =>
        obtain ⟨k, v, hk, hk2, rfl, rfl, hO⟩ := hrel
        have HJ := Lib.hid (ms_J l k hk hk2)
        have hj1 := HJ.out.2
        have hj2 := HJ.out.1.tlo
        by_cases hlt : k < l.length
        · by_cases hlt2 : k < 100
          · obtain ⟨b, o, rfl, hb0, hc0⟩ := Rd.atk Ac.cs (fun _ => rfl) (hl.below hO.b) rfl k hlt
            have hx := HOK.out l[k] (List.getElem_mem hlt)
            have HB := Lib.hid (ms_beg l k hlt)
            have HE := Lib.hid (ms_end l k hlt)
            generalize l[k] = x at hc0 hx HB HE
            obtain ⟨xw, xp, xn, xr, ⟨xk, xa, xd⟩, xe, xt⟩ := x
            obtain ⟨hx1, hx2⟩ := hx
            simp only at hx1 hx2 HB HE
            generalize hs : ms (l.take k) = s at HB HE hO hj1 hj2 HJ
            clear hs
            have p0 := hc0 0 (by omega); have p1 := hc0 1 (by omega); have p2 := hc0 2 (by omega); have p3 := hc0 3 (by omega); have p4 := hc0 4 (by omega)
            have p5 := hc0 5 (by omega); have p6 := hc0 6 (by omega); have p7 := hc0 7 (by omega); have p8 := hc0 8 (by omega)
            simp only [Ac.cs, List.getElem?_cons_zero, List.getElem?_cons_succ, Nat.add_zero] at p0 p1 p2 p3 p4 p5 p6 p7 p8
            clear hc0 hl
            go_upto_region 10 with fail
            have bX := Blk.new wr 34 #[.int .i64 xw, .int .i64 xp, .int .i64 xn, .bool xr, .int .i64 xk, .int .i64 xa, .string xd, .int .i64 xe, .string xt]
            have OX := hO.more (.cells #[.int .i64 xw, .int .i64 xp, .int .i64 xn, .bool xr, .int .i64 xk, .int .i64 xa, .string xd, .int .i64 xe, .string xt] 34)
            replace OX : Own w (wr.alloc (.cells #[.int .i64 xw, .int .i64 xp, .int .i64 xn, .bool xr, .int .i64 xk, .int .i64 xa, .string xd, .int .i64 xe, .string xt] 34)) (fun i => i = wr.heap.size) H C v s := OX.less fun i hi => .inr hi
            generalize wr.alloc (.cells #[.int .i64 xw, .int .i64 xp, .int .i64 xn, .bool xr, .int .i64 xk, .int .i64 xa, .string xd, .int .i64 xe, .string xt] 34) = w4 at bX OX ⊢
            generalize wr.heap.size = X at bX OX ⊢
            clear hO p0 p1 p2 p3 p4 p5 p6 p7 p8 hb0
            have p0 := bX.cell 0; have p1 := bX.cell 1; have p2 := bX.cell 2; have p3 := bX.cell 3; have p4 := bX.cell 4; have p5 := bX.cell 5; have p6 := bX.cell 6; have p7 := bX.cell 7; have p8 := bX.cell 8
            simp only [List.getElem?_toArray, List.getElem?_cons_zero, List.getElem?_cons_succ] at p0 p1 p2 p3 p4 p5 p6 p7 p8
            by_cases hz : pk xw 2 = 0
            · have hB := Lib.hid (HB.out hz)
              have hpk := Lib.hid (pick_any xw 2 hx1 (by omega) (by omega))
              rw [hz] at hpk
              have hln := bgE_lt (s := s) (by omega) xp ⟨xk, xa, xd⟩
              have HL1 := Lib.hid hln.1
              have hbg := Lib.hid (begin_all OX.i (by omega) (by omega) (by omega) xp ⟨xk, xa, xd⟩)
              clear hz hln
              go_wp2_with (go_at_call 9; refine (hpk.out _).mono ?_; rintro e w' ⟨rfl, rfl⟩)
              refine hbg.out.mono ?_; rintro e w5 ⟨rfl, hp⟩
              obtain ⟨v5, O5, _⟩ := OX.next hp
              have O5 := Lib.hid O5
              clear hp bX OX p0 p1 p2 p3 p4 p5 p6 p7 p8 hbg
              go_wp2_with fail
              go_roundw
              case rel => exact ⟨k + 1, v5, by omega, by omega, by go_num, by rw [hB.out, HL1.out]; go_num, by rw [hB.out]; exact O5.out.less fun i hi => False.elim hi⟩
              case measure => simp [intOf]; omega
            · have hE := Lib.hid (HE.out hz)
              have hpk := Lib.hid (pick_any xw 2 hx1 (by omega) (by omega))
              have hz' : (pk xw 2 == 0) = false := by simpa using hz
              have hpn := Lib.hid (pick_any xn (1 + s.1.length) hx2 (by omega) (by omega))
              have hnb := pk_bd64 xn (1 + s.1.length) (by omega) (by omega)
              have bXd : Blk w4.drew X 34 _ := bX
              have OXd := OX.drew
              have hen := Lib.hid (end_all OXd.i (by omega) (by omega) (by omega) (pk xn (1 + s.1.length)) xe xt hnb)
              have HEL := Lib.hid (enE_len s (pk xn (1 + s.1.length)) xe xt)
              have hw1 : IntKind.i64.wrap (1 + (s.1.length : Int)) = 1 + (s.1.length : Int) := IntWalk.i64_in _ (by omega)
              generalize pk xw 2 = q at hz' hpk
              generalize pk xn (1 + s.1.length) = n at hpn hen hE HEL
              clear hz hnb
              have HKEEP := Lib.hid (fun (W' : World) (s' : List Ev × Int) (hp : BgP w4.drew H C v s' W') => OXd.keep hp bXd rfl)
              go_wp2_with (go_at_call 9; refine (hpk.out _).mono ?_; rintro e w' ⟨rfl, rfl⟩)
              go_region_held3 (fun W' => W'.cell? ⟨X, 2, none⟩ = some (.int .i64 xn) ∧ W'.cell? ⟨X, 7, none⟩ = some (.int .i64 xe) ∧ W'.cell? ⟨X, 8, none⟩ = some (.string xt) ∧ Blk W' X 34 #[.int .i64 xw, .int .i64 xp, .int .i64 xn, .bool xr, .int .i64 xk, .int .i64 xa, .string xd, .int .i64 xe, .string xt])
                (first
                  | exact ⟨bXd.cell 2, bXd.cell 7, bXd.cell 8, bXd⟩
                  | exact act_cells (HKEEP.out _ _ (by assumption)))
                (first
                  | (go_at_call 9; refine (hpn.out _).mono ?_; rintro e w' ⟨rfl, rfl⟩)
                  | (go_at_call 12; refine hen.out.mono ?_; rintro e w' ⟨rfl, hp⟩))
              obtain ⟨v5, O5, _⟩ := OXd.next (by assumption)
              have O5 := Lib.hid O5
              go_wp2_with fail
              go_roundw
              case rel => exact ⟨k + 1, v5, by omega, by omega, by go_num, by rw [hE.out, HEL.out], by rw [hE.out]; exact O5.out.less fun i hi => False.elim hi⟩
              case measure => simp [intOf]; omega
          · obtain rfl : k = 100 := by omega
            have HEND := Lib.hid (EndO.of (by omega) hk (.inr rfl) hO)
            clear hO HJ hj1 hj2
            go_wp2_with fail
            go_meet
            exact HEND.out
        · obtain rfl : k = l.length := by omega
          have HEND := Lib.hid (EndO.of hk2 hk (.inl rfl) hO)
          clear hO HJ hj1 hj2
          go_wp2_with fail
          go_meet
          exact HEND.out
  case rest =>
    obtain ⟨s, v, hO, hJ, hj1⟩ := hcut
    clear hl HOK O2
    have hev := Lib.hid (events_any hO.i (by omega))
    go_wp2_with fail
    refine hev.out.mono ?_; rintro e w5 ⟨ve, rfl, re, hb5⟩
    have O5 := hO.below hb5
    obtain ⟨ae, ce, rfl⟩ : ∃ a c, ve = .slice a s.1.length c := by obtain ⟨_, a, c, rfl, _⟩ := re; exact ⟨_, _, rfl⟩
    have hof := Lib.hid (of_any O5.i (by omega) block)
    clear hO hb5 hev
    go_wp2_with fail
    refine hof.out.mono ?_; rintro e w6 ⟨vf, rfl, rf, hb6⟩
    have B6 := (O5.below hb6).b
    have re6 := re.below hb6
    have rf6 := Rd.of_owns rf
    obtain ⟨af, cf, rfl⟩ : ∃ a c, vf = .slice a (ofB block s.1).length c := by obtain ⟨_, a, c, rfl, _⟩ := rf6; exact ⟨_, _, rfl⟩
    clear O5 hof rf hb6 re
    have hol : (ofB block s.1).length ≤ s.1.length := List.length_filter_le _ _
    generalize hev : s.1 = evs at re6 rf6 hj1 hol ⊢
    clear hJ hev
    go_wp2_with fail
    go_loopw [12, 13] (fun m i wr2 => ∃ j : Nat, j ≤ evs.length ∧ i = .int .i64 j ∧ m = .int .i64 (ofB block (evs.take j)).length ∧ Below w6.heap.size w6 wr2) (fun _ i _ => evs.length - (intOf i).toNat)
    case atStart => exact ⟨0, Nat.zero_le _, rfl, rfl, Below.refl _ _⟩
    case round =>
      obtain ⟨j, hj, rfl, rfl, hb⟩ := hrel
      have hkl := ofB_le block evs j
      by_cases hjl : j < evs.length
      · obtain ⟨b, o, rfl, hb0, hc0⟩ := Rd.atk Ev.cs (fun _ => rfl) (re6.below hb) rfl j hjl
        have hs := Lib.hid (ofB_succ block evs j hjl)
        have hat := Lib.hid (ofB_at block evs j hjl)
        generalize evs[j] = x at hc0 hs hat
        have HX : Hid (∃ y, y = x) := Lib.hid ⟨x, rfl⟩
        obtain ⟨xp, xb, xe, ⟨xk, xa, xd⟩, xr, xt⟩ := x
        have p0 := hc0 0 (by omega); have p1 := hc0 1 (by omega); have p2 := hc0 2 (by omega); have p3 := hc0 3 (by omega); have p4 := hc0 4 (by omega)
        have p5 := hc0 5 (by omega); have p6 := hc0 6 (by omega); have p7 := hc0 7 (by omega)
        simp only [Ev.cs, List.getElem?_cons_zero, List.getElem?_cons_succ, Nat.add_zero] at p0 p1 p2 p3 p4 p5 p6 p7
        clear hc0
        by_cases hxa : xa = block
        · subst hxa
          by_cases hk1 : xk = 1
          · subst hk1
            cases he : (xe != 0)
            · have he' : (xe == 0) = true := by simpa using he
              have HS := Lib.hid (show ofB xa (evs.take (j + 1)) = ofB xa (evs.take j) from by rw [hs.out, if_neg (by simp [cnt, he])])
              clear hs hat
              go_wp2_with fail
              go_roundw
              case rel => exact ⟨j + 1, by omega, by go_num, by rw [HS.out], below_al hb _⟩
              case measure => simp [intOf]; omega
            · have he' : (xe == 0) = false := by simpa using he
              cases hr : (xr == 0)
              · have hr' : (xr != 0) = true := by simpa using hr
                have HS := Lib.hid (show ofB xa (evs.take (j + 1)) = ofB xa (evs.take j) from by rw [hs.out, if_neg (by simp [cnt, hr])])
                clear hs hat
                go_wp2_with fail
                go_roundw
                case rel => exact ⟨j + 1, by omega, by go_num, by rw [HS.out], below_al hb _⟩
                case measure => simp [intOf]; omega
              · have hr' : (xr != 0) = false := by simpa using hr
                have hcT : (xa == xa && cnt ⟨xp, xb, xe, ⟨1, xa, xd⟩, xr, xt⟩) = true := by simp [cnt, he, hr]
                have HS := Lib.hid (show ofB xa (evs.take (j + 1)) = ofB xa (evs.take j) ++ [⟨xp, xb, xe, ⟨1, xa, xd⟩, xr, xt⟩] from by rw [hs.out, if_pos hcT])
                obtain ⟨hlt2, hat2⟩ := hat.out hcT
                obtain ⟨b2, o2, rfl, hb2, hc2⟩ := Rd.atk Ev.cs (fun _ => rfl) (rf6.below hb) rfl _ hlt2
                rw [hat2 hlt2] at hc2
                clear hs hat hcT hat2
                generalize hkk : (ofB xa (evs.take j)).length = kk at hlt2 hc2 HS hkl ⊢
                have HKK := Lib.hid hkk
                clear hkk
                have q0 := hc2 0 (by omega); have q1 := hc2 1 (by omega); have q2 := hc2 2 (by omega); have q3 := hc2 3 (by omega); have q4 := hc2 4 (by omega)
                have q5 := hc2 5 (by omega); have q6 := hc2 6 (by omega); have q7 := hc2 7 (by omega)
                simp only [Ev.cs, List.getElem?_cons_zero, List.getElem?_cons_succ, Nat.add_zero] at q0 q1 q2 q3 q4 q5 q6 q7
                clear hc2 rf6 re6
                have i1 : (0 : Int) ≤ (kk : Int) := by omega
                have i2 : (kk : Int) < ((ofB xa evs).length : Int) := by omega
                have heq := fun W => eqEv W ⟨xp, xb, xe, ⟨1, xa, xd⟩, xr, xt⟩ ⟨xp, xb, xe, ⟨1, xa, xd⟩, xr, xt⟩
                simp only [Ev.v, decide_true] at heq
                go_upto_region 24 with fail
                go_quiet (fail)
                go_wp2_with fail
                go_roundw
                case rel => exact ⟨j + 1, by omega, by go_num, by rw [HS.out, List.length_append, HKK.out]; go_num, below_drewN (below_al hb _) _⟩
                case measure => simp [intOf]; omega
          · have e1 : (xk == 1) = false := by simpa using hk1
            have e1' : (xk != 1) = true := by simpa using hk1
            by_cases hk2 : xk = 2
            · subst hk2
              cases he : (xe != 0)
              · have he' : (xe == 0) = true := by simpa using he
                have hcT : (xa == xa && cnt ⟨xp, xb, xe, ⟨2, xa, xd⟩, xr, xt⟩) = true := by simp [cnt, he']
                have HS := Lib.hid (show ofB xa (evs.take (j + 1)) = ofB xa (evs.take j) ++ [⟨xp, xb, xe, ⟨2, xa, xd⟩, xr, xt⟩] from by rw [hs.out, if_pos hcT])
                obtain ⟨hlt2, hat2⟩ := hat.out hcT
                obtain ⟨b2, o2, rfl, hb2, hc2⟩ := Rd.atk Ev.cs (fun _ => rfl) (rf6.below hb) rfl _ hlt2
                rw [hat2 hlt2] at hc2
                clear hs hat hcT hat2
                generalize hkk : (ofB xa (evs.take j)).length = kk at hlt2 hc2 HS hkl ⊢
                have HKK := Lib.hid hkk
                clear hkk
                have q0 := hc2 0 (by omega); have q1 := hc2 1 (by omega); have q2 := hc2 2 (by omega); have q3 := hc2 3 (by omega); have q4 := hc2 4 (by omega)
                have q5 := hc2 5 (by omega); have q6 := hc2 6 (by omega); have q7 := hc2 7 (by omega)
                simp only [Ev.cs, List.getElem?_cons_zero, List.getElem?_cons_succ, Nat.add_zero] at q0 q1 q2 q3 q4 q5 q6 q7
                clear hc2 rf6 re6
                have i1 : (0 : Int) ≤ (kk : Int) := by omega
                have i2 : (kk : Int) < ((ofB xa evs).length : Int) := by omega
                have heq := fun W => eqEv W ⟨xp, xb, xe, ⟨2, xa, xd⟩, xr, xt⟩ ⟨xp, xb, xe, ⟨2, xa, xd⟩, xr, xt⟩
                simp only [Ev.v, decide_true] at heq
                go_upto_region 24 with fail
                go_quiet (fail)
                go_wp2_with fail
                go_roundw
                case rel => exact ⟨j + 1, by omega, by go_num, by rw [HS.out, List.length_append, HKK.out]; go_num, below_drewN (below_al hb _) _⟩
                case measure => simp [intOf]; omega
              · have he' : (xe == 0) = false := by simpa using he
                cases hr : (xr == 0)
                · have hr' : (xr != 0) = true := by simpa using hr
                  cases hu : (xr == 171)
                  · have hu' : (xr != 171) = true := by simpa using hu
                    have HS := Lib.hid (show ofB xa (evs.take (j + 1)) = ofB xa (evs.take j) from by rw [hs.out, if_neg (by simp [cnt, he', hr, hu])])
                    clear hs hat
                    go_wp2_with fail
                    go_roundw
                    case rel => exact ⟨j + 1, by omega, by go_num, by rw [HS.out], below_al hb _⟩
                    case measure => simp [intOf]; omega
                  · have hu' : (xr != 171) = false := by simpa using hu
                    have hcT : (xa == xa && cnt ⟨xp, xb, xe, ⟨2, xa, xd⟩, xr, xt⟩) = true := by simp [cnt, he', hr, hu]
                    have HS := Lib.hid (show ofB xa (evs.take (j + 1)) = ofB xa (evs.take j) ++ [⟨xp, xb, xe, ⟨2, xa, xd⟩, xr, xt⟩] from by rw [hs.out, if_pos hcT])
                    obtain ⟨hlt2, hat2⟩ := hat.out hcT
                    obtain ⟨b2, o2, rfl, hb2, hc2⟩ := Rd.atk Ev.cs (fun _ => rfl) (rf6.below hb) rfl _ hlt2
                    rw [hat2 hlt2] at hc2
                    clear hs hat hcT hat2
                    generalize hkk : (ofB xa (evs.take j)).length = kk at hlt2 hc2 HS hkl ⊢
                    have HKK := Lib.hid hkk
                    clear hkk
                    have q0 := hc2 0 (by omega); have q1 := hc2 1 (by omega); have q2 := hc2 2 (by omega); have q3 := hc2 3 (by omega); have q4 := hc2 4 (by omega)
                    have q5 := hc2 5 (by omega); have q6 := hc2 6 (by omega); have q7 := hc2 7 (by omega)
                    simp only [Ev.cs, List.getElem?_cons_zero, List.getElem?_cons_succ, Nat.add_zero] at q0 q1 q2 q3 q4 q5 q6 q7
                    clear hc2 rf6 re6
                    have i1 : (0 : Int) ≤ (kk : Int) := by omega
                    have i2 : (kk : Int) < ((ofB xa evs).length : Int) := by omega
                    have heq := fun W => eqEv W ⟨xp, xb, xe, ⟨2, xa, xd⟩, xr, xt⟩ ⟨xp, xb, xe, ⟨2, xa, xd⟩, xr, xt⟩
                    simp only [Ev.v, decide_true] at heq
                    go_upto_region 24 with fail
                    go_quiet (fail)
                    go_wp2_with fail
                    go_roundw
                    case rel => exact ⟨j + 1, by omega, by go_num, by rw [HS.out, List.length_append, HKK.out]; go_num, below_drewN (below_al hb _) _⟩
                    case measure => simp [intOf]; omega
                · have hr' : (xr != 0) = false := by simpa using hr
                  have hcT : (xa == xa && cnt ⟨xp, xb, xe, ⟨2, xa, xd⟩, xr, xt⟩) = true := by simp [cnt, he', hr]
                  have HS := Lib.hid (show ofB xa (evs.take (j + 1)) = ofB xa (evs.take j) ++ [⟨xp, xb, xe, ⟨2, xa, xd⟩, xr, xt⟩] from by rw [hs.out, if_pos hcT])
                  obtain ⟨hlt2, hat2⟩ := hat.out hcT
                  obtain ⟨b2, o2, rfl, hb2, hc2⟩ := Rd.atk Ev.cs (fun _ => rfl) (rf6.below hb) rfl _ hlt2
                  rw [hat2 hlt2] at hc2
                  clear hs hat hcT hat2
                  generalize hkk : (ofB xa (evs.take j)).length = kk at hlt2 hc2 HS hkl ⊢
                  have HKK := Lib.hid hkk
                  clear hkk
                  have q0 := hc2 0 (by omega); have q1 := hc2 1 (by omega); have q2 := hc2 2 (by omega); have q3 := hc2 3 (by omega); have q4 := hc2 4 (by omega)
                  have q5 := hc2 5 (by omega); have q6 := hc2 6 (by omega); have q7 := hc2 7 (by omega)
                  simp only [Ev.cs, List.getElem?_cons_zero, List.getElem?_cons_succ, Nat.add_zero] at q0 q1 q2 q3 q4 q5 q6 q7
                  clear hc2 rf6 re6
                  have i1 : (0 : Int) ≤ (kk : Int) := by omega
                  have i2 : (kk : Int) < ((ofB xa evs).length : Int) := by omega
                  have heq := fun W => eqEv W ⟨xp, xb, xe, ⟨2, xa, xd⟩, xr, xt⟩ ⟨xp, xb, xe, ⟨2, xa, xd⟩, xr, xt⟩
                  simp only [Ev.v, decide_true] at heq
                  go_upto_region 24 with fail
                  go_quiet (fail)
                  go_wp2_with fail
                  go_roundw
                  case rel => exact ⟨j + 1, by omega, by go_num, by rw [HS.out, List.length_append, HKK.out]; go_num, below_drewN (below_al hb _) _⟩
                  case measure => simp [intOf]; omega
            · have e2 : (xk == 2) = false := by simpa using hk2
              have e2' : (xk != 2) = true := by simpa using hk2
              have HS := Lib.hid (show ofB xa (evs.take (j + 1)) = ofB xa (evs.take j) from by rw [hs.out, if_neg (by simp [cnt, e2, hk1])])
              clear hs hat
              go_wp2_with fail
              go_roundw
              case rel => exact ⟨j + 1, by omega, by go_num, by rw [HS.out], below_al hb _⟩
              case measure => simp [intOf]; omega
        · have e1 : (xa == block) = false := by simpa using hxa
          have e1' : (xa != block) = true := by simpa using hxa
          have HS := Lib.hid (show ofB block (evs.take (j + 1)) = ofB block (evs.take j) from by rw [hs.out, if_neg (by simp [e1])])
          clear hs hat
          go_wp2_with fail
          go_roundw
          case rel => exact ⟨j + 1, by omega, by go_num, by rw [HS.out], below_al hb _⟩
          case measure => simp [intOf]; omega
      · obtain rfl : j = evs.length := by omega
        rw [List.take_length]
        go_wp2_with fail
        go_ret
        exact ⟨rfl, B6.trans (hb.mono B6.size)⟩
end Go.Proofs.Ytmpkcmgdamfaaaa
