/- The walk of HistoryPlays. -/
import Derived.Test.YtmpkcmgdamfaaaaTwo
import Derived.Deep.RegionHeld3
namespace Go.Proofs.Ytmpkcmgdamfaaaa
open Go.RowKit SlRd
set_option linter.unusedVariables false

theorem eventsR_any {W : World} {xs : List Ev} {va vb : Value} (ha : Rd W 8 va xs.length (xs.flatMap Ev.cs)) (hb : Rd W 8 vb xs.length (xs.flatMap Ev.cs)) (hl : xs.length ≤ 140737488351232) :
    Calls Try.prog 16 #[va, vb] W fun e w' => e = .returned (.bool true) ∧ Below W.heap.size W w' := by
  have := same_any xs xs va vb W ha hb hl hl
  rw [decide_eq_true rfl] at this
  exact this

def RelP (w : World) (H C R : Nat) (M : Nat) (i : Value) (wr : World) : Prop := ∃ (j : Nat) (va vb : Value), j ≤ M ∧ i = .int .i64 j ∧ Two w wr (fun _ => False) H C va (bgs j) R vb (bgs j)
def EndP (w : World) (H C R : Nat) (M : Nat) (wx : World) : Prop := ∃ va vb, Two w wx (fun _ => False) H C va (bgs M) R vb (bgs M)
def RelQ (w : World) (l : List Ac) (H C R : Nat) (M : Nat) (i : Value) (wr : World) : Prop := ∃ (k : Nat) (va vb : Value), k ≤ l.length ∧ k ≤ 100 ∧ i = .int .i64 k ∧ Two w wr (fun _ => False) H C va (ps M (l.take k)) R vb (ps M (l.take k))
/-- what the round's last test reads -/
structure S29 (w W : World) (X H C R : Nat) (va vb : Value) (s : List Ev × Int) (cs : Array Value) : Prop where
  t : Two w W (fun i => i = X) H C va s R vb s
  x : Blk W X 34 cs
theorem S29.below {w W W' : World} {X H C R : Nat} {va vb : Value} {s : List Ev × Int} {cs : Array Value} (h : S29 w W X H C R va vb s cs) (hb : Below W.heap.size W W') : S29 w W' X H C R va vb s cs := ⟨h.t.below hb, (hb.block X h.x.lt).trans h.x⟩
theorem S29.all {w W : World} {X H C R : Nat} {va vb : Value} {s : List Ev × Int} {xw xp xn xk xa xe : Int} {xr : Bool} {xd xt : ByteArray} (h : S29 w W X H C R va vb s #[.int .i64 xw, .int .i64 xp, .int .i64 xn, .bool xr, .int .i64 xk, .int .i64 xa, .string xd, .int .i64 xe, .string xt]) :
    W.cell? ⟨X, 5, none⟩ = some (.int .i64 xa) ∧ S29 w W X H C R va vb s #[.int .i64 xw, .int .i64 xp, .int .i64 xn, .bool xr, .int .i64 xk, .int .i64 xa, .string xd, .int .i64 xe, .string xt] := ⟨h.x.cell 5, h⟩
/-- what the round's switch leaves -/
def EndX (w : World) (X H C R : Nat) (x : Ac) (s : List Ev × Int) (is : Value) (wx : World) : Prop := ∃ va vb, is = .bool true ∧ Two w wx (fun i => i = X) H C va s R vb s ∧ Blk wx X 34 x.cs.toArray

theorem EndX.of {w : World} {X H C R : Nat} {x : Ac} {s : List Ev × Int} {wx : World} {va vb : Value} (h : Two w wx (fun i => i = X) H C va s R vb s) (hb : Blk wx X 34 x.cs.toArray) : EndX w X H C R x s (.bool true) wx := ⟨va, vb, rfl, h, hb⟩
theorem pcells {W : World} {X : Nat} {xw xp xn xk xa xe : Int} {xr : Bool} {xd xt : ByteArray} (h : Blk W X 34 #[.int .i64 xw, .int .i64 xp, .int .i64 xn, .bool xr, .int .i64 xk, .int .i64 xa, .string xd, .int .i64 xe, .string xt]) :
    W.cell? ⟨X, 1, none⟩ = some (.int .i64 xp) ∧ W.cell? ⟨X, 2, none⟩ = some (.int .i64 xn) ∧ W.cell? ⟨X, 4, none⟩ = some (.int .i64 xk) ∧ W.cell? ⟨X, 5, none⟩ = some (.int .i64 xa) ∧ W.cell? ⟨X, 6, none⟩ = some (.string xd) ∧ W.cell? ⟨X, 7, none⟩ = some (.int .i64 xe) ∧ W.cell? ⟨X, 8, none⟩ = some (.string xt) ∧
    Blk W X 34 #[.int .i64 xw, .int .i64 xp, .int .i64 xn, .bool xr, .int .i64 xk, .int .i64 xa, .string xd, .int .i64 xe, .string xt] :=
  ⟨h.cell 1, h.cell 2, h.cell 4, h.cell 5, h.cell 6, h.cell 7, h.cell 8, h⟩
theorem pstep_beg (s : List Ev × Int) (x : Ac) (h : pk x.what 8 ≤ 3) : pstep s x = bgE s x.pilot x.op := by
  unfold pstep
  rw [if_pos h]
theorem pstep_end (s : List Ev × Int) (x : Ac) (h : ¬ pk x.what 8 ≤ 3) (h2 : pk x.what 8 ≤ 6) : pstep s x = enE s (pN s x) x.err x.data := by
  unfold pstep
  rw [if_neg h, if_pos h2]
theorem pN_bd (s : List Ev × Int) (x : Ac) (h : -9223372036854775808 ≤ x.n ∧ x.n ≤ 9223372036854775807) (hl : s.1.length ≤ 200) : -9223372036854775808 ≤ pN s x ∧ pN s x ≤ 9223372036854775807 := by
  unfold pN
  split
  · exact pk_bd64 _ _ (by omega) (by omega)
  · exact h
theorem pstep_no (s : List Ev × Int) (x : Ac) (h : ¬ pk x.what 8 ≤ 3) (h2 : ¬ pk x.what 8 ≤ 6) : pstep s x = s := by
  unfold pstep
  rw [if_neg h, if_neg h2]
set_option maxRecDepth 100000 in
set_option maxHeartbeats 1600000 in
theorem historyPlays_walk (l : List Ac) (vl : Value) (many : Int) (w : World) (hl : Rd w 9 vl l.length (l.flatMap Ac.cs)) (hok : ∀ x ∈ l, x.ok) (hll : l.length ≤ 140737488351232) (hm : -9223372036854775808 ≤ many ∧ many ≤ 9223372036854775807) :
    Calls Try.prog 3 #[vl, .int .i64 many] w fun e w' => e = .returned (.bool true) ∧ Below w.heap.size w w' := by
  obtain ⟨al, cl, rfl⟩ : ∃ a c, vl = .slice a l.length c := by obtain ⟨_, a, c, rfl, _⟩ := hl; exact ⟨_, _, rfl⟩
  have HOK := Lib.hid hok
  clear hok
  obtain ⟨M, hM, hM2⟩ : ∃ M : Nat, pk many 202 = M ∧ M ≤ 201 := ⟨(pk many 202).toNat, by have := pk_bd many 202 (by omega); omega, by have := pk_bd many 202 (by omega); omega⟩
  have hpm := Lib.hid (fun W => by have := pick_any many 202 hm (by omega) (by omega) W; rw [hM] at this; exact this)
  clear hM
  go_enter Try.func3, Try.ntmps3
  go_wp2_with fail
  refine (awake_any _).mono ?_; rintro e w1 ⟨rfl, hb1⟩
  go_wp2_with fail
  refine (new_any _).mono ?_; rintro e w2 ⟨H, C, rfl, hi, hb2, hH, hC⟩
  go_wp2_with fail
  refine (refNew_any _).mono ?_; rintro e w3 ⟨R, rfl, hr, hb3, hR⟩
  have T3 : Two w w3 (fun _ => False) H C (.slice none 0 0) (bgs 0) R (.slice none 0 0) (bgs 0) := by
    refine ⟨hi.below hb3, hr, below_then (below_then hb1 hb2) hb3, ?_, ?_, fun i hi => False.elim hi⟩
    · rintro i (rfl | rfl | hh)
      · refine ⟨Nat.le_trans hb1.size hH, id, ?_⟩
        rintro (rfl | hh)
        · exact absurd hi.h.lt (by omega)
        · cases hh
      · refine ⟨Nat.le_trans hb1.size hC, id, ?_⟩
        rintro (rfl | hh)
        · exact absurd hi.c.lt (by omega)
        · cases hh
      · cases hh
    · rintro i (rfl | hh)
      · exact ⟨Nat.le_trans (Nat.le_trans hb1.size hb2.size) hR, id⟩
      · cases hh
  have hl3 := hl.below T3.b
  clear hi hr hb1 hb2 hb3 hH hC hR
  go_upto_block 0 with fail
  go_cut [4, 8] from 22 to 34 (fun s4 s8 wx => EndP w H C R M wx)
  case first =>
    as_aux_lemma =>
      go_wp2_with fail
      go_loopw [8] (fun i wr => RelP w H C R M i wr) (fun i _ => M - (intOf i).toNat)
      case atStart => exact ⟨0, _, _, Nat.zero_le _, rfl, T3⟩
      case round =>
        obtain ⟨j, va, vb, hj, rfl, hT⟩ := hrel
        have hbo := bgs_ok j
        by_cases hjM : j < M
        · have hbA := Lib.hid (begin_all hT.a hbo.1 hbo.2.1 (by omega) 0 ⟨0, 0, ⟨#[]⟩⟩)
          go_wp2_with (go_at_call 9; refine (hpm.out _).mono ?_; rintro e w' ⟨rfl, rfl⟩)
          refine hbA.out.mono ?_; rintro e w5 ⟨rfl, hp⟩
          obtain ⟨va5, T5⟩ := hT.left hp
          have hbB := Lib.hid (refBegin_all T5.r hbo.1 hbo.2.1 (by omega) 0 ⟨0, 0, ⟨#[]⟩⟩)
          clear hp hbA
          go_wp2_with fail
          refine hbB.out.mono ?_; rintro e w6 ⟨rfl, hq⟩
          obtain ⟨vb6, T6⟩ := T5.right hq
          have T6 := Lib.hid T6
          have hne : (bgR (bgs j) != bgR (bgs j)) = false := by simp
          clear hq hbB T5 hT hbo
          go_wp2_with fail
          go_roundw
          case rel => exact ⟨j + 1, _, _, by omega, by go_num, T6.out⟩
          case measure => simp [intOf]; omega
        · obtain rfl : j = M := by omega
          have HE : Hid (EndP w H C R j wr) := Lib.hid ⟨_, _, hT⟩
          clear hT hbo
          go_wp2_with (go_at_call 9; refine (hpm.out _).mono ?_; rintro e w' ⟨rfl, rfl⟩)
          go_meet
          exact HE.out
  case rest =>
    obtain ⟨va, vb, hT⟩ := hcut
    clear T3 hpm hl3
    have hl3 : Rd w 9 (.slice al l.length cl) l.length (l.flatMap Ac.cs) := hl
    go_wp2_with fail
    go_loopw [9] (fun i wr => RelQ w l H C R M i wr) (fun i _ => l.length - (intOf i).toNat)
    case atStart => exact ⟨0, va, vb, Nat.zero_le _, by omega, rfl, hT⟩
    case round =>
      obtain ⟨k, va, vb, hk, hk2, rfl, hT⟩ := hrel
      have hso := ps_ok M hM2 l k hk hk2
      by_cases hlt : k < l.length ∧ k < 100
      · obtain ⟨hlt, hlt2⟩ := hlt
        obtain ⟨b, o, rfl, hb0, hc0⟩ := Rd.atk Ac.cs (fun _ => rfl) (hl3.below hT.b) rfl k hlt
        have hx := HOK.out l[k] (List.getElem_mem hlt)
        have HS := Lib.hid (ps_take M l k hlt)
        generalize l[k] = x at hc0 hx HS
        obtain ⟨xw, xp, xn, xr, ⟨xk, xa, xd⟩, xe, xt⟩ := x
        obtain ⟨hx1, hx2⟩ := hx
        simp only at hx1 hx2
        generalize ps M (l.take k) = s at HS hT hso
        obtain ⟨ab, cb, rfl⟩ := hT.r.form
        have p0 := hc0 0 (by omega); have p1 := hc0 1 (by omega); have p2 := hc0 2 (by omega); have p3 := hc0 3 (by omega); have p4 := hc0 4 (by omega)
        have p5 := hc0 5 (by omega); have p6 := hc0 6 (by omega); have p7 := hc0 7 (by omega); have p8 := hc0 8 (by omega)
        simp only [Ac.cs, List.getElem?_cons_zero, List.getElem?_cons_succ, Nat.add_zero] at p0 p1 p2 p3 p4 p5 p6 p7 p8
        clear hc0 hl hl3
        go_upto_region 15 with fail
        have bX : Blk (wr.alloc (.cells #[.int .i64 xw, .int .i64 xp, .int .i64 xn, .bool xr, .int .i64 xk, .int .i64 xa, .string xd, .int .i64 xe, .string xt] 34)) wr.heap.size 34 #[.int .i64 xw, .int .i64 xp, .int .i64 xn, .bool xr, .int .i64 xk, .int .i64 xa, .string xd, .int .i64 xe, .string xt] := Blk.new _ _ _
        have TX : Two w (wr.alloc (.cells #[.int .i64 xw, .int .i64 xp, .int .i64 xn, .bool xr, .int .i64 xk, .int .i64 xa, .string xd, .int .i64 xe, .string xt] 34)) (fun i => i = wr.heap.size) H C va s R (.slice ab s.1.length cb) s := (hT.more (.cells #[.int .i64 xw, .int .i64 xp, .int .i64 xn, .bool xr, .int .i64 xk, .int .i64 xa, .string xd, .int .i64 xe, .string xt] 34)).less fun i hi => .inr hi
        generalize wr.alloc (.cells #[.int .i64 xw, .int .i64 xp, .int .i64 xn, .bool xr, .int .i64 xk, .int .i64 xa, .string xd, .int .i64 xe, .string xt] 34) = w4 at bX TX ⊢
        generalize wr.heap.size = X at bX TX ⊢
        clear hT p0 p1 p2 p3 p4 p5 p6 p7 p8 hb0
        have p0 := bX.cell 0; have p1 := bX.cell 1; have p2 := bX.cell 2; have p3 := bX.cell 3; have p4 := bX.cell 4; have p5 := bX.cell 5; have p6 := bX.cell 6; have p7 := bX.cell 7; have p8 := bX.cell 8
        simp only [List.getElem?_toArray, List.getElem?_cons_zero, List.getElem?_cons_succ] at p0 p1 p2 p3 p4 p5 p6 p7 p8
        have hpk := Lib.hid (pick_any xw 8 hx1 (by omega) (by omega))
        have hqb := pk_bd xw 8 (by omega)
        have HP := Lib.hid (show pk xw 8 = pk xw 8 from rfl)
        obtain ⟨q, hq⟩ : ∃ q, q = pk xw 8 := ⟨_, rfl⟩
        rw [← hq] at hpk hqb
        have HQ := Lib.hid hq
        clear hq HP
        go_upto_block 4 with (go_at_call 9; refine (hpk.out _).mono ?_; rintro e w' ⟨rfl, rfl⟩)
        go_cut [11, 12] from 52 to 101 (fun s11 s12 wx => EndX w X H C R ⟨xw, xp, xn, xr, ⟨xk, xa, xd⟩, xe, xt⟩ (pstep s ⟨xw, xp, xn, xr, ⟨xk, xa, xd⟩, xe, xt⟩) s11 wx)
        case first =>
          as_aux_lemma =>
            have T0d := TX.drew
            have bXd : Blk w4.drew X 34 #[.int .i64 xw, .int .i64 xp, .int .i64 xn, .bool xr, .int .i64 xk, .int .i64 xa, .string xd, .int .i64 xe, .string xt] := bX
            have HA := Lib.hid (fun W' (hi : HI W' H C va s.1 s.2) => begin_all hi hso.1 hso.2.1 (by omega) xp ⟨xk, xa, xd⟩)
            have HB := Lib.hid (fun W' (hi : RI W' R (.slice ab s.1.length cb) s.1 s.2) => refBegin_all hi hso.1 hso.2.1 (by omega) xp ⟨xk, xa, xd⟩)
            have hb1 := hqb.1
            have hb2 := hqb.2
            have hcase : q = 0 ∨ q = 1 ∨ q = 2 ∨ q = 3 ∨ q = 4 ∨ q = 5 ∨ q = 6 ∨ q = 7 := by omega
            clear hqb hb1 hb2
            rcases hcase with rfl | rfl | rfl | rfl | rfl | rfl | rfl | rfl
            iterate 4
              · have hps := Lib.hid (pstep_beg s ⟨xw, xp, xn, xr, ⟨xk, xa, xd⟩, xe, xt⟩ (by rw [← HQ.out]; omega))
                have hee : (bgR s == bgR s) = true := by simp
                clear TX bX HQ
                go_wp2_with fail
                go_region_held3 (fun W' => W'.cell? ⟨X, 1, none⟩ = some (.int .i64 xp) ∧ W'.cell? ⟨X, 2, none⟩ = some (.int .i64 xn) ∧ W'.cell? ⟨X, 4, none⟩ = some (.int .i64 xk) ∧ W'.cell? ⟨X, 5, none⟩ = some (.int .i64 xa) ∧ W'.cell? ⟨X, 6, none⟩ = some (.string xd) ∧ W'.cell? ⟨X, 7, none⟩ = some (.int .i64 xe) ∧ W'.cell? ⟨X, 8, none⟩ = some (.string xt) ∧ Blk W' X 34 #[.int .i64 xw, .int .i64 xp, .int .i64 xn, .bool xr, .int .i64 xk, .int .i64 xa, .string xd, .int .i64 xe, .string xt])
                  (first
                    | exact pcells bXd
                    | exact pcells (T0d.keepA (by assumption) bXd rfl)
                    | exact pcells (T0d.keepB (by assumption) bXd rfl)
                    | exact pcells (T0d.keepAB (by assumption) (by assumption) bXd rfl)
                    | exact pcells (T0d.keepBA (by assumption) (by assumption) bXd rfl))
                  (first
                    | (go_at_call 10; refine (HA.out _ (by first | exact T0d.a | exact T0d.rightA (by assumption))).mono ?_; rintro e w' ⟨rfl, hp⟩)
                    | (go_at_call 11; refine (HB.out _ (by first | exact T0d.r | exact T0d.leftR (by assumption))).mono ?_; rintro e w' ⟨rfl, hq⟩))
                all_goals
                  first
                    | (obtain ⟨va5, vb5, T5⟩ := T0d.ab hp hq; have b5 := T0d.keepAB hp hq bXd rfl; have E5 := Lib.hid (EndX.of (x := ⟨xw, xp, xn, xr, ⟨xk, xa, xd⟩, xe, xt⟩) T5 b5); clear T5 b5)
                    | (obtain ⟨va5, vb5, T5⟩ := T0d.ba hq hp; have b5 := T0d.keepBA hq hp bXd rfl; have E5 := Lib.hid (EndX.of (x := ⟨xw, xp, xn, xr, ⟨xk, xa, xd⟩, xe, xt⟩) T5 b5); clear T5 b5)
                  go_wp2_with fail
                  go_meet
                  rw [hps.out]
                  exact E5.out
            iterate 3
              · have hps := Lib.hid (pstep_end s ⟨xw, xp, xn, xr, ⟨xk, xa, xd⟩, xe, xt⟩ (by rw [← HQ.out]; omega) (by rw [← HQ.out]; omega))
                have hnb := pN_bd s ⟨xw, xp, xn, xr, ⟨xk, xa, xd⟩, xe, xt⟩ hx2 hso.1
                have hpn := Lib.hid (fun W => pick_any xn (1 + s.1.length) hx2 (by omega) (by omega) W)
                have HN := Lib.hid (show pN s ⟨xw, xp, xn, xr, ⟨xk, xa, xd⟩, xe, xt⟩ = if xr = true then pk xn (1 + s.1.length) else xn from rfl)
                have r0 := TX.r.h.cell 0
                simp only [List.getElem?_toArray, List.getElem?_cons_zero] at r0
                have hsl := hso.1
                generalize pN s ⟨xw, xp, xn, xr, ⟨xk, xa, xd⟩, xe, xt⟩ = n at hps HN hnb
                clear HQ
                go_upto_if 77 with fail
                go_cut [12] from 78 to 86 (fun s12 wx => s12 = .int .i64 n ∧ ∃ m, wx = w4.drewN m)
                case first =>
                  cases xr
                  · go_wp2_with fail
                    go_meet
                    exact ⟨by rw [HN.out]; rfl, 0, rfl⟩
                  · go_upto_region 27 with fail
                    have hw1 : IntKind.i64.wrap (1 + (s.1.length : Int)) = 1 + (s.1.length : Int) := IntWalk.i64_in _ (by omega)
                    go_quiet ((go_at_call 9; exact (hpn.out _).mono fun _ _ h => ⟨h.1, _, h.2.symm⟩))
                    clear hw1
                    go_wp2_with fail
                    go_meet
                    exact ⟨by rw [HN.out]; rfl, _, rfl⟩
                case rest =>
                  obtain ⟨rfl, m, rfl⟩ := hcut
                  have T0d := (TX.below (below_drewN (Below.refl _ w4) m)).drew
                  have bXd : Blk (w4.drewN m).drew X 34 #[.int .i64 xw, .int .i64 xp, .int .i64 xn, .bool xr, .int .i64 xk, .int .i64 xa, .string xd, .int .i64 xe, .string xt] := bX
                  have HA := Lib.hid (fun W' (hi : HI W' H C va s.1 s.2) => end_all hi hso.1 hso.2.1 (by omega) n xe xt hnb)
                  have HB := Lib.hid (fun W' (hi : RI W' R (.slice ab s.1.length cb) s.1 s.2) => refEnd_all hi hso.1 hso.2.1 (by omega) n xe xt hnb)
                  have hee : (ends s.1 n == ends s.1 n) = true := by simp
                  clear TX bX r0 hpn HN
                  go_wp2_with fail
                  go_region_held3 (fun W' => W'.cell? ⟨X, 1, none⟩ = some (.int .i64 xp) ∧ W'.cell? ⟨X, 2, none⟩ = some (.int .i64 xn) ∧ W'.cell? ⟨X, 4, none⟩ = some (.int .i64 xk) ∧ W'.cell? ⟨X, 5, none⟩ = some (.int .i64 xa) ∧ W'.cell? ⟨X, 6, none⟩ = some (.string xd) ∧ W'.cell? ⟨X, 7, none⟩ = some (.int .i64 xe) ∧ W'.cell? ⟨X, 8, none⟩ = some (.string xt) ∧ Blk W' X 34 #[.int .i64 xw, .int .i64 xp, .int .i64 xn, .bool xr, .int .i64 xk, .int .i64 xa, .string xd, .int .i64 xe, .string xt])
                    (first
                      | exact pcells bXd
                      | exact pcells (T0d.keepA (by assumption) bXd rfl)
                      | exact pcells (T0d.keepB (by assumption) bXd rfl)
                      | exact pcells (T0d.keepAB (by assumption) (by assumption) bXd rfl)
                      | exact pcells (T0d.keepBA (by assumption) (by assumption) bXd rfl))
                    (first
                      | (go_at_call 12; refine (HA.out _ (by first | exact T0d.a | exact T0d.rightA (by assumption))).mono ?_; rintro e w' ⟨rfl, hp⟩)
                      | (go_at_call 13; refine (HB.out _ (by first | exact T0d.r | exact T0d.leftR (by assumption))).mono ?_; rintro e w' ⟨rfl, hq⟩))
                  all_goals
                    first
                      | (obtain ⟨va5, vb5, T5⟩ := T0d.ab hp hq; have b5 := T0d.keepAB hp hq bXd rfl; have E5 := Lib.hid (EndX.of (x := ⟨xw, xp, xn, xr, ⟨xk, xa, xd⟩, xe, xt⟩) T5 b5); clear T5 b5)
                      | (obtain ⟨va5, vb5, T5⟩ := T0d.ba hq hp; have b5 := T0d.keepBA hq hp bXd rfl; have E5 := Lib.hid (EndX.of (x := ⟨xw, xp, xn, xr, ⟨xk, xa, xd⟩, xe, xt⟩) T5 b5); clear T5 b5)
                    go_wp2_with fail
                    go_meet
                    rw [hps.out]
                    exact E5.out
            · have hps := Lib.hid (pstep_no s ⟨xw, xp, xn, xr, ⟨xk, xa, xd⟩, xe, xt⟩ (by rw [← HQ.out]; omega) (by rw [← HQ.out]; omega))
              have E5 := Lib.hid (EndX.of (x := ⟨xw, xp, xn, xr, ⟨xk, xa, xd⟩, xe, xt⟩) TX bX)
              clear TX bX T0d HA HB HQ
              go_wp2_with fail
              go_meet
              rw [hps.out]
              exact E5.out
        case rest =>
          obtain ⟨va5, vb5, rfl, T5, bX5⟩ := hcut
          have hs' : (pstep s ⟨xw, xp, xn, xr, ⟨xk, xa, xd⟩, xe, xt⟩).1.length ≤ 200 := (pstep_ok s ⟨xw, xp, xn, xr, ⟨xk, xa, xd⟩, xe, xt⟩ hso.1).1
          rw [← HS.out] at T5 hs'
          have hlen : (ps M (l.take (k + 1))).1.length ≤ 1000 := by omega
          obtain ⟨s', hs2⟩ : ∃ s', s' = ps M (l.take (k + 1)) := ⟨_, rfl⟩
          rw [← hs2] at T5 hlen hs'
          have HS' := Lib.hid hs2.symm
          clear hs2
          have hol : (ofB xa s'.1).length ≤ 140737488351232 := Nat.le_trans (List.length_filter_le _ _) (by omega)
          have hS : S29 w wc X H C R va5 vb5 s' #[.int .i64 xw, .int .i64 xp, .int .i64 xn, .bool xr, .int .i64 xk, .int .i64 xa, .string xd, .int .i64 xe, .string xt] := ⟨T5, bX5⟩
          have hSd := S29.below hS (Below.refl _ wc).drew
          have hne : ((openN s'.1 : Int) != (openN s'.1 : Int)) = false := by simp
          clear T5 bX5 hS p0 p1 p2 p3 p4 p5 p6 p7 p8 TX bX hpk HQ hqb
          go_upto_region 29 with fail
          go_region_held3 (fun W' => W'.cell? ⟨X, 5, none⟩ = some (.int .i64 xa) ∧ S29 w W' X H C R va5 vb5 s' #[.int .i64 xw, .int .i64 xp, .int .i64 xn, .bool xr, .int .i64 xk, .int .i64 xa, .string xd, .int .i64 xe, .string xt])
            (first
              | exact S29.all hSd
              | (go_split_ands; exact S29.all (by assumption))
              | (go_split_ands; exact S29.all (S29.below (by assumption) (by assumption))))
            (first
              | (go_at_call 14; go_split_ands; refine (open_any (S29.t (by assumption)).a hlen).mono ?_; rintro e w' ⟨rfl, hbI⟩)
              | (go_at_call 15; go_split_ands; refine (refOpen_any (S29.t (by assumption)).r hlen).mono ?_; rintro e w' ⟨rfl, rfl⟩)
              | (go_at_call 17; go_split_ands; refine (of_any (S29.t (by assumption)).a hlen xa).mono ?_; rintro e w' ⟨vo, rfl, ho, hbI⟩)
              | (go_at_call 18; go_split_ands; refine (refOf_any (S29.t (by assumption)).r hlen xa).mono ?_; rintro e w' ⟨vp, rfl, hop, hbI⟩)
              | (go_at_call 16; go_split_ands; refine (eventsR_any (xs := ofB xa s'.1) (by first | exact Rd.of_owns ho | exact (Rd.of_owns ho).below (by assumption)) (by first | exact Rd.of_owns hop | exact (Rd.of_owns hop).below (by assumption)) hol).mono ?_; rintro e w' ⟨rfl, hbI⟩))
          all_goals
            go_split_ands
            have hT6 := Lib.hid (S29.t (by assumption))
            go_wp2_with fail
            go_roundw
            case rel => exact ⟨k + 1, va5, vb5, by omega, by omega, by go_num, by rw [HS'.out]; exact hT6.out.less fun i hi => False.elim hi⟩
            case measure => simp [intOf]; omega
      · generalize ps M (l.take k) = s at hT hso
        have hlen : s.1.length ≤ 1000 := by omega
        have hev := Lib.hid (events_any hT.a hlen)
        have hfin : k = l.length ∨ (k < l.length ∧ k = 100) := by omega
        clear hl hl3 HOK
        rcases hfin with rfl | ⟨h1, rfl⟩
        all_goals
          go_wp2_with fail
          refine hev.out.mono ?_; rintro e w5 ⟨v5, rfl, r5, hb5⟩
          have T5 := hT.below hb5
          have her := Lib.hid (refEvents_any T5.r hlen)
          go_wp2_with fail
          refine her.out.mono ?_; rintro e w6 ⟨v6, rfl, r6, hb6⟩
          have T6 := T5.below hb6
          have hsm := Lib.hid (eventsR_any (r5.below hb6) r6 (by omega))
          go_wp2_with fail
          refine hsm.out.mono ?_; rintro e w7 ⟨rfl, hb7⟩
          have B7 := (T6.below hb7).b
          go_wp2_with fail
          go_ret
          exact ⟨rfl, B7⟩
end Go.Proofs.Ytmpkcmgdamfaaaa
