/- The walk of HistoryMoments. -/
import Derived.Test.YtmpkcmgdamfaaaaOf
import Derived.Test.YtmpkcmgdamfaaaaSeen
namespace Go.Proofs.Ytmpkcmgdamfaaaa
open Go.RowKit SlRd
set_option linter.unusedVariables false

theorem val_int {k : IntKind} {a b : Int} (h : a = b) : Value.int k a = .int k b := by rw [h]
theorem bgE_ts {s : List Ev × Int} (h : s.1.length < 200) (p : Int) (o : Op) : (bgE s p o).2 = s.2 + 1 := by
  unfold bgE
  rw [if_pos h]
theorem enE_ts (s : List Ev × Int) (n er : Int) (da : ByteArray) : (enE s n er da).2 = if ends s.1 n = true then s.2 + 1 else s.2 := by
  unfold enE
  split <;> rfl
/-- the first loop's relation -/
def RelM (w : World) (l : List Ac) (H C : Nat) (many d i : Value) (wr : World) : Prop :=
  ∃ (k : Nat) (v : Value), k ≤ l.length ∧ k ≤ 100 ∧ i = .int .i64 k ∧ many = .int .i64 (ms (l.take k)).1.length ∧ d = .int .i64 ((ms (l.take k)).2 - (ms (l.take k)).1.length) ∧ Own w wr (fun _ => False) H C v (ms (l.take k))
/-- what it leaves -/
def EndM (w : World) (l : List Ac) (H C : Nat) (many d : Value) (wx : World) : Prop := ∃ (s : List Ev × Int) (v : Value) (dd : Int), many = .int .i64 s.1.length ∧ d = .int .i64 dd ∧ s.2 = s.1.length + dd ∧ Own w wx (fun _ => False) H C v s ∧ J s ∧ s.1.length ≤ 100
theorem EndM.of {w : World} {l : List Ac} {H C : Nat} {wx : World} {k : Nat} {v : Value} (h1 : k ≤ 100) (h2 : k ≤ l.length) (h3 : k = l.length ∨ k = 100) (h : Own w wx (fun _ => False) H C v (ms (l.take k))) :
    EndM w l H C (.int .i64 (ms (l.take k)).1.length) (.int .i64 ((ms (l.take k)).2 - (ms (l.take k)).1.length)) wx := by
  have := ms_J l k h2 h1
  exact ⟨_, v, _, rfl, rfl, by omega, h, this.1, by omega⟩

/-- the second loop's relation -/
def RelS (evs : List Ev) (S : Nat) (w5 : World) (i : Value) (wr : World) : Prop :=
  ∃ j : Nat, j ≤ evs.length ∧ i = .int .i64 j ∧ BoolRow wr S 201 (fun m => decide ((m : Int) ∈ moments (evs.take j))) ∧ S < wr.heap.size ∧ Below S w5 wr
set_option maxRecDepth 100000 in
set_option maxHeartbeats 1600000 in
theorem historyMoments_walk (l : List Ac) (vl : Value) (w : World) (hl : Rd w 9 vl l.length (l.flatMap Ac.cs)) (hok : ∀ x ∈ l, x.ok) (hll : l.length ≤ 140737488351232) :
    Calls Try.prog 4 #[vl] w fun e w' => e = .returned (.bool true) ∧ Below w.heap.size w w' := by
  obtain ⟨al, cl, rfl⟩ : ∃ a c, vl = .slice a l.length c := by obtain ⟨_, a, c, rfl, _⟩ := hl; exact ⟨_, _, rfl⟩
  have HOK := Lib.hid hok
  clear hok
  go_enter Try.func4, Try.ntmps4
  go_wp2_with fail
  refine (awake_any _).mono ?_; rintro e w1 ⟨rfl, hb1⟩
  go_wp2_with fail
  refine (new_any _).mono ?_; rintro e w2 ⟨H, C, rfl, hi, hb2, hH, hC⟩
  have O2 : Own w w2 (fun _ => False) H C (.slice none 0 0) ([], 0) := Own.made hi (below_then hb1 hb2) (Nat.le_trans hb1.size hH) (Nat.le_trans hb1.size hC)
  clear hi hb1 hb2 hH hC
  go_upto_block 0 with fail
  go_cut [2, 5, 6, 7, 8] from 21 to 67 (fun s2 s5 s6 s7 s8 wx => EndM w l H C s5 s6 wx)
  case first =>
    as_aux_lemma =>
      go_wp2_with fail
      go_loopw [5, 6, 7] (fun m d i wr => RelM w l H C m d i wr) (fun _ _ i _ => l.length - (intOf i).toNat)
      case atStart => exact ⟨0, _, Nat.zero_le _, by omega, rfl, by simp [ms], by simp [ms], by simpa [ms] using O2⟩
      case round =>
        obtain ⟨k, v, hk, hk2, rfl, rfl, rfl, hO⟩ := hrel
        have HJ := Lib.hid (ms_J l k hk hk2)
        have hj1 := HJ.out.2
        have hj2 := HJ.out.1.tlo
        by_cases hlt : k < l.length
        · by_cases hlt2 : k < 100
          · obtain ⟨b, o, rfl, hb0, hc0⟩ := Rd.atk Ac.cs (fun _ => rfl) (hl.below hO.b) rfl k hlt
            have hx := HOK.out l[k] (List.getElem_mem hlt)
            have HB := Lib.hid (ms_beg l k hlt)
            have HE := Lib.hid (ms_end l k hlt)
            generalize l[k] = x at hc0 hx HB HE
            obtain ⟨xw, xp, xn, xr, ⟨xk, xa, xd⟩, xe, xt⟩ := x
            obtain ⟨hx1, hx2⟩ := hx
            simp only at hx1 hx2 HB HE
            generalize hs : ms (l.take k) = s at HB HE hO hj1 hj2 HJ
            clear hs
            have p0 := hc0 0 (by omega); have p1 := hc0 1 (by omega); have p2 := hc0 2 (by omega); have p3 := hc0 3 (by omega); have p4 := hc0 4 (by omega)
            have p5 := hc0 5 (by omega); have p6 := hc0 6 (by omega); have p7 := hc0 7 (by omega); have p8 := hc0 8 (by omega)
            simp only [Ac.cs, List.getElem?_cons_zero, List.getElem?_cons_succ, Nat.add_zero] at p0 p1 p2 p3 p4 p5 p6 p7 p8
            clear hc0 hl
            go_upto_region 11 with fail
            have bX := Blk.new wr 34 #[.int .i64 xw, .int .i64 xp, .int .i64 xn, .bool xr, .int .i64 xk, .int .i64 xa, .string xd, .int .i64 xe, .string xt]
            have OX := hO.more (.cells #[.int .i64 xw, .int .i64 xp, .int .i64 xn, .bool xr, .int .i64 xk, .int .i64 xa, .string xd, .int .i64 xe, .string xt] 34)
            replace OX : Own w (wr.alloc (.cells #[.int .i64 xw, .int .i64 xp, .int .i64 xn, .bool xr, .int .i64 xk, .int .i64 xa, .string xd, .int .i64 xe, .string xt] 34)) (fun i => i = wr.heap.size) H C v s := OX.less fun i hi => .inr hi
            generalize wr.alloc (.cells #[.int .i64 xw, .int .i64 xp, .int .i64 xn, .bool xr, .int .i64 xk, .int .i64 xa, .string xd, .int .i64 xe, .string xt] 34) = w4 at bX OX ⊢
            generalize wr.heap.size = X at bX OX ⊢
            clear hO p0 p1 p2 p3 p4 p5 p6 p7 p8 hb0
            have p0 := bX.cell 0; have p1 := bX.cell 1; have p2 := bX.cell 2; have p3 := bX.cell 3; have p4 := bX.cell 4; have p5 := bX.cell 5; have p6 := bX.cell 6; have p7 := bX.cell 7; have p8 := bX.cell 8
            simp only [List.getElem?_toArray, List.getElem?_cons_zero, List.getElem?_cons_succ] at p0 p1 p2 p3 p4 p5 p6 p7 p8
            by_cases hz : pk xw 2 = 0
            · have hB := Lib.hid (HB.out hz)
              have hpk := Lib.hid (pick_any xw 2 hx1 (by omega) (by omega))
              rw [hz] at hpk
              have hln := bgE_lt (s := s) (by omega) xp ⟨xk, xa, xd⟩
              have hbg := begin_all OX.i (by omega) (by omega) (by omega) xp ⟨xk, xa, xd⟩
              have hts := bgE_ts (s := s) (by omega) xp ⟨xk, xa, xd⟩
              have hJn : J (bgE s xp ⟨xk, xa, xd⟩) := by rw [← hB.out]; exact (ms_J l (k + 1) (by omega) (by omega)).1
              have hop := hJn.opn
              rw [hln.2] at hbg
              generalize bgE s xp ⟨xk, xa, xd⟩ = s' at hB hln hbg hts hop
              have hop1 : (openN s'.1 : Int) ≤ 2 * (s.1.length : Int) + 1 - s.2 := by rw [hop, hln.1, hts]; omega
              have hop2 : 2 * (s.1.length : Int) + 1 - s.2 ≤ (openN s'.1 : Int) := by rw [hop, hln.1, hts]; omega
              have HL1 := Lib.hid hln.1
              have HTS := Lib.hid hts
              have hbg := Lib.hid hbg
              have hsl : s'.1.length ≤ 1000 := by omega
              clear hz hln hts hop hJn
              go_wp2_with (go_at_call 9; refine (hpk.out _).mono ?_; rintro e w' ⟨rfl, rfl⟩)
              refine hbg.out.mono ?_; rintro e w5 ⟨rfl, hp⟩
              obtain ⟨v5, O5, _⟩ := OX.next hp
              have hoo := Lib.hid (open_any O5.i hsl)
              have O5 := Lib.hid O5
              clear hp bX OX p0 p1 p2 p3 p4 p5 p6 p7 p8 hbg
              go_wp2_with fail
              refine hoo.out.mono ?_; rintro e w6 ⟨rfl, hb6⟩
              have O6 := Lib.hid (O5.out.below hb6)
              clear hb6 hoo O5
              go_wp2_with fail
              go_roundw
              case rel => exact ⟨k + 1, v5, by omega, by omega, by go_num, by rw [hB.out, HL1.out]; go_num, by rw [hB.out, HL1.out, HTS.out]; exact val_int (by omega), by rw [hB.out]; exact O6.out.less fun i hi => False.elim hi⟩
              case measure => simp [intOf]; omega
            · have hE := Lib.hid (HE.out hz)
              have hpk := Lib.hid (pick_any xw 2 hx1 (by omega) (by omega))
              have hz' : (pk xw 2 == 0) = false := by simpa using hz
              have hpn := Lib.hid (pick_any xn (1 + s.1.length) hx2 (by omega) (by omega))
              have hnb := pk_bd64 xn (1 + s.1.length) (by omega) (by omega)
              have bXd : Blk w4.drew X 34 _ := bX
              have OXd := OX.drew
              have hen := end_all OXd.i (by omega) (by omega) (by omega) (pk xn (1 + s.1.length)) xe xt hnb
              have HEL := Lib.hid (enE_len s (pk xn (1 + s.1.length)) xe xt)
              have hw1 : IntKind.i64.wrap (1 + (s.1.length : Int)) = 1 + (s.1.length : Int) := IntWalk.i64_in _ (by omega)
              have hJn : J (enE s (pk xn (1 + s.1.length)) xe xt) := by rw [← hE.out]; exact (ms_J l (k + 1) (by omega) (by omega)).1
              have hop := hJn.opn
              have hts := enE_ts s (pk xn (1 + s.1.length)) xe xt
              generalize pk xw 2 = q at hz' hpk
              generalize pk xn (1 + s.1.length) = n at hpn hen hE HEL hop hts
              generalize ends s.1 n = fin at hts hen
              generalize enE s n xe xt = s' at hen hE HEL hop hts
              have hop1 : (openN s'.1 : Int) ≤ 2 * (s.1.length : Int) - s'.2 := by rw [hop, HEL.out]; omega
              have hop2 : 2 * (s.1.length : Int) - s'.2 ≤ (openN s'.1 : Int) := by rw [hop, HEL.out]; omega
              have hsl : s'.1.length ≤ 1000 := by rw [HEL.out]; omega
              have hen := Lib.hid hen
              clear hz hnb hop hJn
              have HKEEP := Lib.hid (fun (W' : World) (s' : List Ev × Int) (hp : BgP w4.drew H C v s' W') => OXd.keep hp bXd rfl)
              cases fin
              all_goals
                simp only [Bool.false_eq_true, if_true, if_false] at hts
                have HTS := Lib.hid hts
                rw [hts] at hop1 hop2
                clear hts
                go_wp2_with (go_at_call 9; refine (hpk.out _).mono ?_; rintro e w' ⟨rfl, rfl⟩)
                go_region_held3 (fun W' => W'.cell? ⟨X, 2, none⟩ = some (.int .i64 xn) ∧ W'.cell? ⟨X, 7, none⟩ = some (.int .i64 xe) ∧ W'.cell? ⟨X, 8, none⟩ = some (.string xt) ∧ Blk W' X 34 #[.int .i64 xw, .int .i64 xp, .int .i64 xn, .bool xr, .int .i64 xk, .int .i64 xa, .string xd, .int .i64 xe, .string xt])
                  (first
                    | exact ⟨bXd.cell 2, bXd.cell 7, bXd.cell 8, bXd⟩
                    | exact act_cells (HKEEP.out _ _ (by assumption)))
                  (first
                    | (go_at_call 9; refine (hpn.out _).mono ?_; rintro e w' ⟨rfl, rfl⟩)
                    | (go_at_call 12; refine hen.out.mono ?_; rintro e w' ⟨rfl, hp⟩))
                obtain ⟨v5, O5, _⟩ := OXd.next (by assumption)
                have hoo := Lib.hid (open_any O5.i hsl)
                have O5 := Lib.hid O5
                go_wp2_with fail
                refine hoo.out.mono ?_; rintro e w6 ⟨rfl, hb6⟩
                have O6 := Lib.hid (O5.out.below hb6)
                clear hb6 hoo O5
                go_wp2_with fail
                go_roundw
                case rel => exact ⟨k + 1, v5, by omega, by omega, by go_num, by rw [hE.out, HEL.out], by (rw [hE.out, HEL.out, HTS.out]; try exact val_int (by omega)), by rw [hE.out]; exact O6.out.less fun i hi => False.elim hi⟩
                case measure => simp [intOf]; omega
          · obtain rfl : k = 100 := by omega
            have HEND := Lib.hid (EndM.of (by omega) hk (.inr rfl) hO)
            clear hO HJ hj1 hj2
            go_wp2_with fail
            go_meet
            exact HEND.out
        · obtain rfl : k = l.length := by omega
          have HEND := Lib.hid (EndM.of hk2 hk (.inl rfl) hO)
          clear hO HJ hj1 hj2
          go_wp2_with fail
          go_meet
          exact HEND.out
  case rest =>
    obtain ⟨s, v, d, rfl, rfl, hTd, hO, hJ, hj1⟩ := hcut
    clear hl HOK O2
    have hev := Lib.hid (events_any hO.i (by omega))
    go_wp2_with fail
    refine hev.out.mono ?_; rintro e w5 ⟨ve, rfl, re, hb5⟩
    have O5 := (hO.below hb5).b
    obtain ⟨ae, ce, rfl⟩ : ∃ a c, ve = .slice a s.1.length c := by obtain ⟨_, a, c, rfl, _⟩ := re; exact ⟨_, _, rfl⟩
    clear hO hb5 hev
    obtain ⟨evs, T⟩ := s
    simp only at re hJ hj1 hTd
    subst hTd
    have hz44 := zero44
    go_upto_block 0 with fail
    have HZ := BoolRow.made w5
    have lS : w5.heap.size < (w5.alloc (.cells falses 44)).heap.size := by simp
    have BW := (Below.refl w5.heap.size w5).alloc (Nat.le_refl _) (.cells falses 44)
    generalize w5.alloc (.cells falses 44) = w6 at HZ lS BW ⊢
    generalize hS : w5.heap.size = S at HZ lS BW ⊢
    have HSz := Lib.hid hS
    have htl := hJ.tlo
    simp only at htl
    clear hS hz44
    go_loopw [11] (fun i wr => RelS evs S w5 i wr) (fun i _ => evs.length - (intOf i).toNat)
    case atStart => exact ⟨0, Nat.zero_le _, rfl, by simpa [moments] using HZ, lS, BW⟩
    case round =>
      obtain ⟨j, hj, rfl, hrow, lSr, hb⟩ := hrel
      by_cases hjl : j < evs.length
      · obtain ⟨b, o, rfl, hb0, hc0⟩ := Rd.atk Ev.cs (fun _ => rfl) (re.below (by rw [HSz.out]; exact hb)) rfl j hjl
        have hrg := hJ.rng evs[j] (List.getElem_mem hjl)
        have hmt := Lib.hid (moments_take evs j hjl)
        have hma := moments_at evs hJ.nod j hjl
        have hpv : 0 < j → ∃ pb : Int, pb < evs[j].begin_ ∧ wr.cell? ⟨b, o + (j - 1) * 8 + 1, none⟩ = some (.int .i64 pb) := fun h0 => by
          obtain ⟨b', o', hbe, _, hc'⟩ := Rd.atk Ev.cs (fun _ => rfl) (re.below (by rw [HSz.out]; exact hb)) rfl (j - 1) (by omega)
          cases hbe
          have := List.pairwise_iff_getElem.1 hJ.inc (j - 1) j (by simp only; omega) hjl (by omega)
          exact ⟨_, this, hc' 1 (by omega)⟩
        generalize evs[j] = x at hc0 hrg hmt hma hpv
        obtain ⟨xp, xb, xe, ⟨xk, xa, xd⟩, xr, xt⟩ := x
        simp only at hrg hmt hma hpv
        obtain ⟨bn, rfl⟩ : ∃ n : Nat, xb = n := ⟨xb.toNat, by have := hrg.1; clear hpv; omega⟩
        have p0 := hc0 0 (by omega); have p1 := hc0 1 (by omega); have p2 := hc0 2 (by omega); have p3 := hc0 3 (by omega); have p4 := hc0 4 (by omega)
        have p5 := hc0 5 (by omega); have p6 := hc0 6 (by omega); have p7 := hc0 7 (by omega)
        simp only [Ev.cs, List.getElem?_cons_zero, List.getElem?_cons_succ, Nat.add_zero] at p0 p1 p2 p3 p4 p5 p6 p7
        have hpv := Lib.hid hpv
        have hbnd : bn < 201 := by omega
        have hfr : wr.cell? ⟨S, bn, none⟩ = some (.bool false) ∧ wr.frozen? ⟨S, bn, none⟩ = false := by
          have := hrow bn hbnd
          simpa [hma.1] using this
        obtain ⟨f1, f2⟩ := hfr
        have HB := Lib.hid hb
        have HROW := Lib.hid hrow
        have g1 : (bn : Int) ≤ evs.length + d := by omega
        have g2 : (1 : Int) ≤ (bn : Int) := by omega
        have i1 : (0 : Int) ≤ (bn : Int) := by omega
        have i2 : (bn : Int) < 201 := by omega
        have i3 : (0 : Int) ≤ (j : Int) := by omega
        have i4 : (j : Int) < (evs.length : Int) := by omega
        have d1 : decide ((bn : Int) < 1) = false := decide_eq_false (by omega)
        have d2 : decide ((evs.length : Int) + d < (bn : Int)) = false := decide_eq_false (by omega)
        have HW1 := Lib.hid (show IntKind.i64.wrap ((evs.length : Int) + d) = (evs.length : Int) + d from IntWalk.i64_in _ (by omega))
        clear hc0 hrow
        go_upto_region 25 with fail
        have hal : Below wr.heap.size wr (wr.alloc (.cells #[.int .i64 xp, .int .i64 bn, .int .i64 xe, .int .i64 xk, .int .i64 xa, .string xd, .int .i64 xr, .string xt] 46)) := (Below.refl _ _).alloc (Nat.le_refl _) _
        have bX : Blk (wr.alloc (.cells #[.int .i64 xp, .int .i64 bn, .int .i64 xe, .int .i64 xk, .int .i64 xa, .string xd, .int .i64 xr, .string xt] 46)) wr.heap.size 46 #[.int .i64 xp, .int .i64 bn, .int .i64 xe, .int .i64 xk, .int .i64 xa, .string xd, .int .i64 xr, .string xt] := Blk.new _ _ _
        have HROW7 := Lib.hid (HROW.out.below hal lSr)
        have HB7 := Lib.hid (HB.out.alloc (Nat.le_of_lt lSr) (.cells #[.int .i64 xp, .int .i64 bn, .int .i64 xe, .int .i64 xk, .int .i64 xa, .string xd, .int .i64 xr, .string xt] 46))
        have hSX : S ≠ wr.heap.size := by omega
        have lS7 : S < (wr.alloc (.cells #[.int .i64 xp, .int .i64 bn, .int .i64 xe, .int .i64 xk, .int .i64 xa, .string xd, .int .i64 xr, .string xt] 46)).heap.size := Nat.lt_of_lt_of_le lSr hal.size
        have f17 := (hal.cell (p := ⟨S, bn, none⟩) lSr).trans f1
        have f27 := (hal.frozen (p := ⟨S, bn, none⟩) lSr).trans f2
        have hpv7 : 0 < j → ∃ pb : Int, pb < bn ∧ (wr.alloc (.cells #[.int .i64 xp, .int .i64 bn, .int .i64 xe, .int .i64 xk, .int .i64 xa, .string xd, .int .i64 xr, .string xt] 46)).cell? ⟨b, o + (j - 1) * 8 + 1, none⟩ = some (.int .i64 pb) := fun h0 => by
          obtain ⟨pb, h1, h2⟩ := hpv.out h0
          exact ⟨pb, h1, (hal.cell (p := ⟨b, o + (j - 1) * 8 + 1, none⟩) hb0).trans h2⟩
        have HP7 := Lib.hid hpv7
        clear hpv hpv7
        generalize wr.alloc (.cells #[.int .i64 xp, .int .i64 bn, .int .i64 xe, .int .i64 xk, .int .i64 xa, .string xd, .int .i64 xr, .string xt] 46) = w7 at bX HROW7 HB7 lS7 f17 f27 HP7 ⊢
        generalize wr.heap.size = X at bX hSX ⊢
        clear f1 f2 HROW HB hal p0 p1 p2 p3 p4 p5 p6 p7 hb lSr hb0
        have p0 := bX.cell 0; have p1 := bX.cell 1; have p2 := bX.cell 2; have p3 := bX.cell 3; have p4 := bX.cell 4; have p5 := bX.cell 5; have p6 := bX.cell 6; have p7 := bX.cell 7
        simp only [List.getElem?_toArray, List.getElem?_cons_zero, List.getElem?_cons_succ] at p0 p1 p2 p3 p4 p5 p6 p7
        by_cases hx0 : xe = 0
        · subst hx0
          have HMT := Lib.hid (show moments (evs.take (j + 1)) = moments (evs.take j) ++ [(bn : Int)] from by rw [hmt.out]; simp)
          have ROW1 := Lib.hid (fun n => HROW7.out.drewN n |>.set bn hbnd true (fun m => decide ((m : Int) ∈ moments (evs.take (j + 1)))) (fun m _ => by
            rw [HMT.out]
            by_cases e : m = bn
            · simp [e]
            · have e' : ¬ (m : Int) = bn := by omega
              simp [e, e']))
          have HB7b := Lib.hid (fun n => (below_drewN HB7.out n).setCell (p := ⟨S, bn, none⟩) (Nat.le_refl S) (.bool true))
          clear hma hmt hrg re bX
          rcases Nat.eq_zero_or_pos j with hj0 | hj0
          · subst hj0
            as_aux_lemma =>
            clear HP7
            have W1 := HW1.out
            go_quiet (fail)
            clear W1
            go_wp2_with fail
            go_roundw
            case rel => exact ⟨0 + 1, by omega, by go_num, ROW1.out _, by simpa using lS7, HB7b.out _⟩
            case measure => simp [intOf]; omega
          · as_aux_lemma =>
            obtain ⟨pb, hpb, hpc⟩ := HP7.out hj0
            have d3 : decide ((0 : Int) < (j : Int)) = true := decide_eq_true (by omega)
            have d4 : decide ((bn : Int) ≤ pb) = false := decide_eq_false (by omega)
            have i5 : (0 : Int) ≤ (j : Int) - 1 := by omega
            have i6 : (j : Int) - 1 < (evs.length : Int) := by omega
            have W3 : ((j : Int) - 1).toNat = j - 1 := by omega
            have W2 : IntKind.i64.wrap ((j : Int) - 1) = (j : Int) - 1 := IntWalk.i64_in _ (by omega)
            clear HP7
            have W1 := HW1.out
            go_quiet (fail)
            clear W1 W2 W3
            go_wp2_with fail
            go_roundw
            case rel => exact ⟨j + 1, by omega, by go_num, ROW1.out _, by simpa using lS7, HB7b.out _⟩
            case measure => simp [intOf]; omega
        · obtain ⟨hr1, hr2⟩ : (bn : Int) < xe ∧ xe ≤ (evs.length : Int) + d := by
            rcases hrg.2.2 with hh | hh
            · exact absurd hh hx0
            · exact hh
          clear hrg
          obtain ⟨en, hxn⟩ : ∃ n : Nat, xe = n := ⟨xe.toNat, (Int.toNat_of_nonneg (Int.le_trans i1 (Int.le_of_lt hr1))).symm⟩
          obtain ⟨hma1, hma2⟩ := hma.2 hx0
          have hne2 : ¬ xe = (bn : Int) := hma2
          have hen : en < 201 := by clear hma hmt hma1 hma2 hne2 hx0; omega
          have hne : en ≠ bn := by clear hma hmt hma1 hma2 hne2 hx0; omega
          have e1 : (xe != 0) = true := by simpa using hx0
          have d5 : decide (xe ≤ (bn : Int)) = false := decide_eq_false (by clear hma hmt hma1 hma2 hne2 hx0 e1; omega)
          have d6 : decide ((evs.length : Int) + d < xe) = false := decide_eq_false (by clear hma hmt hma1 hma2 hne2 hx0 e1; omega)
          have i7 : (0 : Int) ≤ xe := by clear hma hmt hma1 hma2 hne2 hx0 e1; omega
          have i8 : xe < 201 := by clear hma hmt hma1 hma2 hne2 hx0 e1; omega
          have HMT := Lib.hid (show moments (evs.take (j + 1)) = moments (evs.take j) ++ [(bn : Int), (en : Int)] from by rw [hmt.out, if_neg hx0, hxn])
          rw [hxn] at hma1
          have fe : w7.cell? ⟨S, en, none⟩ = some (.bool false) ∧ w7.frozen? ⟨S, en, none⟩ = false := by
            have := HROW7.out en hen
            simpa [hma1] using this
          obtain ⟨fe1, fe2⟩ := fe
          have T1 : xe.toNat = en := by rw [hxn]; rfl
          have ROW1 := Lib.hid (fun n => (HROW7.out.drewN n |>.set bn hbnd true (fun m => if m = bn then true else decide ((m : Int) ∈ moments (evs.take j))) (fun m _ => rfl)).set en hen true (fun m => decide ((m : Int) ∈ moments (evs.take (j + 1)))) (fun m _ => by
            rw [HMT.out]
            by_cases e : m = bn
            · have e2 : ¬ m = en := by omega
              simp [e]
            · have e' : ¬ (m : Int) = bn := by omega
              by_cases e3 : m = en
              · simp [e3]
              · have e4 : ¬ (m : Int) = en := by omega
                simp [e, e', e3, e4]))
          have HB7b := Lib.hid (fun n => ((below_drewN HB7.out n).setCell (p := ⟨S, bn, none⟩) (Nat.le_refl S) (.bool true)).setCell (p := ⟨S, en, none⟩) (Nat.le_refl S) (.bool true))
          clear hma hma1 hma2 hmt re bX hx0 hxn hne2
          rcases Nat.eq_zero_or_pos j with hj0 | hj0
          · subst hj0
            as_aux_lemma =>
            clear HP7
            have W1 := HW1.out
            go_quiet (fail)
            clear W1
            go_wp2_with fail
            go_roundw
            case rel => exact ⟨0 + 1, by omega, by go_num, ROW1.out _, by simpa using lS7, HB7b.out _⟩
            case measure => simp [intOf]; omega
          · as_aux_lemma =>
            obtain ⟨pb, hpb, hpc⟩ := HP7.out hj0
            have d3 : decide ((0 : Int) < (j : Int)) = true := decide_eq_true (by omega)
            have d4 : decide ((bn : Int) ≤ pb) = false := decide_eq_false (by omega)
            have i5 : (0 : Int) ≤ (j : Int) - 1 := by omega
            have i6 : (j : Int) - 1 < (evs.length : Int) := by omega
            have W3 : ((j : Int) - 1).toNat = j - 1 := by omega
            have W2 : IntKind.i64.wrap ((j : Int) - 1) = (j : Int) - 1 := IntWalk.i64_in _ (by omega)
            clear HP7
            have W1 := HW1.out
            go_quiet (fail)
            clear W1 W2 W3
            go_wp2_with fail
            go_roundw
            case rel => exact ⟨j + 1, by omega, by go_num, ROW1.out _, by simpa using lS7, HB7b.out _⟩
            case measure => simp [intOf]; omega
      · obtain rfl : j = evs.length := by omega
        have hB := Lib.hid (below_then O5 (hb.mono (Nat.le_of_eq HSz.out)))
        clear hb
        go_wp2_with fail
        go_ret
        exact ⟨rfl, hB.out⟩
end Go.Proofs.Ytmpkcmgdamfaaaa
