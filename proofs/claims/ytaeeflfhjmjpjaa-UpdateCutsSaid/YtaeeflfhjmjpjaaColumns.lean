/- The walk of law15.Columns. -/
import Derived.Test.YtaeeflfhjmjpjaaTexts
import Derived.Deep.CutBlock
namespace Go.Proofs.Ytaeeflfhjmjpjaa
open Go.RowKit SlRd
set_option linter.unusedVariables false

structure Cl where
  known : Int
  has : Int
  seq : Int
  block : ByteArray
@[reducible] def Cl.cs (x : Cl) : List Value := [.int .i64 x.known, .int .i64 x.has, .int .i64 x.seq, .string x.block]

def newStr : ByteArray := ⟨#[110, 101, 119]⟩
def cNum (x : Cl) : Int := 1 + pk x.seq 3
def cMask (masks : List Int) (n : Int) : Int := if n ≤ masks.length then 1 + pk (masks.getD (n - 1).toNat 0) 63 else 63
def cBase (x : Cl) : Rc := ⟨true, 5, ⟨2, 9⟩, pad x.block, false, ⟨0, 0⟩, 0, ⟨#[]⟩⟩
def cOpen (masks : List Int) (x : Cl) : Rc := ⟨true, 5, ⟨2, 9⟩, pad x.block, true, ⟨3, cNum x⟩, cMask masks (cNum x), pad (newStr ++ x.block)⟩
def cDone (x : Cl) : Rc := ⟨true, 5, ⟨3, cNum x⟩, pad x.block, false, ⟨0, 0⟩, 0, ⟨#[]⟩⟩
def cRec (masks : List Int) (x : Cl) : Rc := if pk x.has 4 = 0 ∨ pk x.has 4 = 3 then cOpen masks x else if pk x.has 4 = 1 then cDone x else cBase x
def cKnown (x : Cl) : Bool := pk x.known 5 != 0
def six (raw : List Cl) : List Cl := raw.take 6

theorem info4 : (Try.prog.info? 4).map (fun i => (i.zero, i.size, i.bytes)) = some (some (.bool false), 1, 1) := by kernel_rfl
theorem info37 : (Try.prog.info? 37).map (fun i => (i.zero, i.size, i.bytes)) = some (some (.agg #[.bool false, .int .i64 0, .int .i64 0, .int .i64 0, .string ⟨#[]⟩, .bool false, .int .i64 0, .int .i64 0, .int .i64 0, .string ⟨#[]⟩]), 10, 96) := by kernel_rfl

/-- what a column's numbers are bounded by -/
def Cl.ok (x : Cl) : Prop := (-9223372036854775808 ≤ x.known ∧ x.known ≤ 9223372036854775807) ∧ (-9223372036854775808 ≤ x.has ∧ x.has ≤ 9223372036854775807) ∧ (-9223372036854775808 ≤ x.seq ∧ x.seq ≤ 9223372036854775807) ∧ x.block.size ≤ 140737488351232

theorem cellsAt_set {W : World} {B : Nat} {cs : List Value} (h : ∀ j, W.cell? ⟨B, j, none⟩ = cs[j]?) (i : Nat) (hi : i < cs.length) (v : Value) : ∀ j, (W.setCell ⟨B, i, none⟩ v).cell? ⟨B, j, none⟩ = (cs.set i v)[j]? := by
  intro j
  by_cases hj : j = i
  · subst hj
    rw [World.cell?_setCell_same _ _ _ ((h j).trans (List.getElem?_eq_getElem hi)), List.getElem?_set_self hi]
  · rw [World.cell?_setCell_other _ _ _ _ (by intro he; cases he; exact hj rfl), h j, List.getElem?_set_ne (by omega)]

set_option maxRecDepth 100000 in
set_option maxHeartbeats 1600000 in
theorem columns_any (raw : List Cl) (masks : List Int) (vr vm : Value) (w : World) (hr : Rd w 4 vr raw.length (raw.flatMap Cl.cs)) (hm : Rd w 1 vm masks.length (IV masks)) (hrl : raw.length ≤ 140737488351232) (hml : masks.length ≤ 140737488351232)
    (hok : Hid (∀ x ∈ raw, x.ok)) (hmk : Hid (∀ x ∈ masks, -9223372036854775808 ≤ x ∧ x ≤ 9223372036854775807)) :
    Calls Try.prog 16 #[vr, vm] w fun e w' => ∃ v1 v2, e = .returned (.tuple #[v1, v2]) ∧ w'.ownsRow w.heap.size 4 1 v1 (six raw).length (((six raw).map cKnown).map Value.bool) ∧
      w'.ownsRow w.heap.size 37 10 v2 (six raw).length (((six raw).map (cRec masks)).flatMap Rc.cs) ∧ Below w.heap.size w w' := by
  obtain ⟨ar, cr, rfl⟩ : ∃ a c, vr = .slice a raw.length c := by obtain ⟨_, a, c, rfl, _⟩ := hr; exact ⟨_, _, rfl⟩
  obtain ⟨am, cm, rfl⟩ : ∃ a c, vm = .slice a masks.length c := by obtain ⟨_, a, c, rfl, _⟩ := hm; exact ⟨_, _, rfl⟩
  obtain ⟨i0, hi, hz0, hz1, hz2⟩ := info_parts info4
  obtain ⟨j0, hj, hy0, hy1, hy2⟩ := info_parts info37
  go_enter Try.func16, Try.ntmps16
  go_wp2_with fail
  go_loopw [6, 7, 8] (fun v u i wr => ∃ k : Nat, k ≤ 6 ∧ k ≤ raw.length ∧ i = .int .i64 k ∧ wr.ownsRow w.heap.size 4 1 v k (((raw.take k).map cKnown).map Value.bool) ∧ wr.ownsRow w.heap.size 37 10 u k (((raw.take k).map (cRec masks)).flatMap Rc.cs) ∧ Below w.heap.size w wr) (fun _ _ i _ => 6 - (intOf i).toNat)
  case atStart => exact ⟨0, by omega, by omega, rfl, World.ownsRow_nil _ _ _ _, World.ownsRow_nil _ _ _ _, Below.refl _ _⟩
  case round =>
    obtain ⟨k, hk6, hkl, rfl, hown1, hown2, hb⟩ := hrel
    by_cases hlt : k < raw.length
    · by_cases hlt6 : k < 6
      · obtain ⟨b, o, rfl, hbb, hrow⟩ := Rd.atk Cl.cs (fun _ => rfl) (hr.below hb) rfl k hlt
        have hx := hok.out _ (List.getElem_mem hlt)
        have ht1 : (raw.take (k + 1)) = raw.take k ++ [raw[k]] := List.take_succ_eq_append_getElem hlt
        generalize raw[k] = x at hrow hx ht1
        have HT := Lib.hid ht1
        obtain ⟨x1, x2, x3, x4⟩ := hx
        have h0 := hrow 0 (by omega); have h1 := hrow 1 (by omega); have h2 := hrow 2 (by omega); have h3 := hrow 3 (by omega)
        simp only [Cl.cs, List.getElem?_cons_zero, List.getElem?_cons_succ, Nat.add_zero] at h0 h1 h2 h3
        clear hrow ht1
        go_upto_region 7 with fail
        have hal : Below wr.heap.size wr (wr.alloc (.cells #[.int .i64 x.known, .int .i64 x.has, .int .i64 x.seq, .string x.block] 40)) := (Below.refl _ _).alloc (Nat.le_refl _) _
        have hz : wr.heap.size < (wr.alloc (.cells #[.int .i64 x.known, .int .i64 x.has, .int .i64 x.seq, .string x.block] 40)).heap.size := by simp
        have hc : ∀ j, (wr.alloc (.cells #[.int .i64 x.known, .int .i64 x.has, .int .i64 x.seq, .string x.block] 40)).cell? ⟨wr.heap.size, j, none⟩ = x.cs[j]? := fun j => by rw [World.cell?_alloc_at _ _ _ _ rfl]; simp
        generalize wr.alloc (.cells #[.int .i64 x.known, .int .i64 x.has, .int .i64 x.seq, .string x.block] 40) = w0 at hal hz hc ⊢
        have n1 := owns_below hown1 hal
        have n2 := owns_below hown2 hal
        have hm0 := (hm.below hb).below hal
        have hb0 := hb.trans (hal.mono hb.size)
        have d0 := hc 0; have d1 := hc 1; have d2 := hc 2; have d3 := hc 3
        simp only [Cl.cs, List.getElem?_cons_zero, List.getElem?_cons_succ] at d0 d1 d2 d3
        have hlow := hb.size
        clear h0 h1 h2 h3 hal hc hown1 hown2 hb
        generalize wr.heap.size = N at hz d0 d1 d2 d3 hlow ⊢
        obtain ⟨q, hq, hq3⟩ : ∃ q : Nat, pk x.seq 3 = (q : Int) ∧ q < 3 := ⟨(pk x.seq 3).toNat, by have := pk_bd x.seq 3 (by omega); omega, by have := pk_bd x.seq 3 (by omega); omega⟩
        have hpq := fun W => pick_any x.seq 3 x3 (by omega) (by omega) W
        rw [hq] at hpq
        have HP := Lib.hid hpq
        have HQ := Lib.hid hq
        clear hpq hq
        go_upto_if 34 with (go_at_call 19; refine (HP.out _).mono ?_; rintro e w' ⟨rfl, rfl⟩)
        go_cut [11] (fun s11 wx => s11 = .int .i64 (cMask masks (cNum x)) ∧ wx = w0)
        case first =>
          by_cases hmm : q + 1 ≤ masks.length
          · obtain ⟨bm, om, rfl, hbm, hcm⟩ := hm0.at1 q (by omega)
            unfold IV at hcm
            rw [List.getElem?_map, List.getElem?_eq_getElem (by omega)] at hcm
            simp only [Option.map_some] at hcm
            have hmv := hmk.out _ (List.getElem_mem (show q < masks.length by omega))
            have hme : Hid (cMask masks (cNum x) = 1 + pk (masks[q]) 63) := by
              show _ = _
              unfold cMask cNum
              rw [HQ.out, if_pos (by omega), show ((1 : Int) + q - 1).toNat = q from by omega, List.getD_eq_getElem?_getD, List.getElem?_eq_getElem (by omega)]
              rfl
            generalize masks[q] = mv at hcm hmv hme
            obtain ⟨p1, p2⟩ := pk_bd mv 63 (by omega)
            have HM := Lib.hid (fun W => pick_any mv 63 hmv (by omega) (by omega) W)
            generalize pk mv 63 = p at p1 p2 hme HM
            go_wp2_with (go_at_call 19; refine (HM.out _).mono ?_; rintro e w' ⟨rfl, rfl⟩)
            go_meet
            exact ⟨by rw [hme.out], rfl⟩
          · have hme : Hid (cMask masks (cNum x) = 63) := by
              show _ = _
              unfold cMask cNum
              rw [HQ.out, if_neg (by omega)]
            go_wp2_with fail
            go_meet
            exact ⟨by rw [hme.out], rfl⟩
        case rest =>
          obtain ⟨rfl, rfl⟩ := hcut
          clear hm0
          go_wp2_with fail
          have ht := texts_any x.block wc.heap.size 0 (wc.alloc (.cells #[.string x.block] 9)) (by simp) (by rw [World.cell?_alloc_at _ _ _ _ rfl]; rfl)
          refine ht.mono ?_; rintro e w2 ⟨v, rfl, hv, hbt⟩
          have hal2 : Below wc.heap.size wc (wc.alloc (.cells #[.string x.block] 9)) := (Below.refl _ _).alloc (Nat.le_refl _) _
          have h02 := hal2.trans (hbt.mono hal2.size)
          obtain ⟨av, cv, rfl⟩ := owns_form hv
          obtain ⟨bv, ov, rfl, hbv, hcv⟩ := (Rd.of_owns hv).at1 0 (by omega)
          have m1 := owns_below n1 h02
          have m2 := owns_below n2 h02
          have hb2 := hb0.trans (h02.mono hb0.size)
          have e0 : w2.cell? ⟨N, 0, none⟩ = some (.int .i64 x.known) := by rw [h02.cell (p := ⟨N, 0, none⟩) hz]; exact d0
          have e1 : w2.cell? ⟨N, 1, none⟩ = some (.int .i64 x.has) := by rw [h02.cell (p := ⟨N, 1, none⟩) hz]; exact d1
          have e3 : w2.cell? ⟨N, 3, none⟩ = some (.string x.block) := by rw [h02.cell (p := ⟨N, 3, none⟩) hz]; exact d3
          have hz2' := Nat.lt_of_lt_of_le hz h02.size
          simp only [List.getElem?_cons_zero, Nat.add_zero] at hcv
          clear ht hv hbt hal2 h02 n1 n2 hb0 d0 d1 d2 d3 hz
          go_upto_region 12 with fail
          have hq0 : ∀ j, (w2.alloc (.cells #[.bool true, .int .i64 5, .int .i64 2, .int .i64 9, .string (pad x.block), .bool false, .int .i64 0, .int .i64 0, .int .i64 0, .string ⟨#[]⟩] 37)).cell? ⟨w2.heap.size, j, none⟩ = (cBase x).cs[j]? := fun j => by rw [World.cell?_alloc_at _ _ _ _ rfl]; simp [cBase]
          have hqf : ∀ j, (w2.alloc (.cells #[.bool true, .int .i64 5, .int .i64 2, .int .i64 9, .string (pad x.block), .bool false, .int .i64 0, .int .i64 0, .int .i64 0, .string ⟨#[]⟩] 37)).frozen? ⟨w2.heap.size, j, none⟩ = false := fun j => by simp
          have hal3 : Below w2.heap.size w2 (w2.alloc (.cells #[.bool true, .int .i64 5, .int .i64 2, .int .i64 9, .string (pad x.block), .bool false, .int .i64 0, .int .i64 0, .int .i64 0, .string ⟨#[]⟩] 37)) := (Below.refl _ _).alloc (Nat.le_refl _) _
          have hz3 : w2.heap.size < (w2.alloc (.cells #[.bool true, .int .i64 5, .int .i64 2, .int .i64 9, .string (pad x.block), .bool false, .int .i64 0, .int .i64 0, .int .i64 0, .string ⟨#[]⟩] 37)).heap.size := by simp
          generalize w2.alloc (.cells #[.bool true, .int .i64 5, .int .i64 2, .int .i64 9, .string (pad x.block), .bool false, .int .i64 0, .int .i64 0, .int .i64 0, .string ⟨#[]⟩] 37) = w3 at hq0 hqf hal3 hz3 ⊢
          have n1 := owns_below m1 hal3
          have n2 := owns_below m2 hal3
          have hbw1 := Lib.hid (fun p hp => owns_lt m1 p hp)
          have hbw2 := Lib.hid (fun p hp => owns_lt m2 p hp)
          have hb3 := hb2.trans (hal3.mono hb2.size)
          have d0 : w3.cell? ⟨N, 0, none⟩ = some (.int .i64 x.known) := by rw [hal3.cell (p := ⟨N, 0, none⟩) hz2']; exact e0
          have d1 : w3.cell? ⟨N, 1, none⟩ = some (.int .i64 x.has) := by rw [hal3.cell (p := ⟨N, 1, none⟩) hz2']; exact e1
          have d3 : w3.cell? ⟨N, 3, none⟩ = some (.string x.block) := by rw [hal3.cell (p := ⟨N, 3, none⟩) hz2']; exact e3
          have hlow2 := hb2.size
          clear m1 m2 hb2 e0 e1 e3 hcv hal3
          generalize w2.heap.size = B2 at hq0 hqf hz3 hz2' hbw1 hbw2 hlow2 ⊢
          have hp4 := Lib.hid (fun W => pick_any x.has 4 x2 (by omega) (by omega) W)
          obtain ⟨h, hh⟩ : ∃ h, h = pk x.has 4 := ⟨_, rfl⟩
          obtain ⟨p1, p2⟩ := pk_bd x.has 4 (by omega)
          rw [← hh] at hp4 p1 p2
          have HH := Lib.hid hh
          clear hh
          go_upto_block 2 with (go_at_call 19; refine (hp4.out _).mono ?_; rintro e w' ⟨rfl, rfl⟩)
          go_cut [] (fun wx => (∀ j, wx.cell? ⟨B2, j, none⟩ = (cRec masks x).cs[j]?) ∧ wx.ownsRow w.heap.size 4 1 u6 k (((raw.take k).map cKnown).map Value.bool) ∧ wx.ownsRow w.heap.size 37 10 u7 k (((raw.take k).map (cRec masks)).flatMap Rc.cs) ∧
            Below w.heap.size w wx ∧ wx.cell? ⟨N, 0, none⟩ = some (.int .i64 x.known) ∧ B2 < wx.heap.size)
          case first =>
            rcases (show h = 2 ∨ h = 1 ∨ h = 0 ∨ h = 3 from by omega) with rfl | rfl | rfl | rfl
            · have hR : Hid (cRec masks x = cBase x) := by show _ = _; unfold cRec; rw [← HH.out]; rfl
              go_wp2_with (go_at_call 19; refine (hp4.out _).mono ?_; rintro e w' ⟨rfl, rfl⟩)
              go_meet
              exact ⟨by rw [hR.out]; exact hq0, n1, n2, hb3, d0, hz3⟩
            · have hR : Hid (cRec masks x = cDone x) := by show _ = _; unfold cRec; rw [← HH.out]; rfl
              have b2 := hq0 2; have b3 := hq0 3
              have f2 := hqf 2; have f3 := hqf 3
              simp only [cBase, Rc.cs, List.getElem?_cons_zero, List.getElem?_cons_succ] at b2 b3
              go_wp2_with (go_at_call 19; refine (hp4.out _).mono ?_; rintro e w' ⟨rfl, rfl⟩)
              go_meet
              have g1 := owns_setCell n1 ⟨B2, 2, none⟩ (.int .i64 3) (fun p hp => by have := (hbw1.out p hp).2; show p ≠ B2; omega)
              have g2 := owns_setCell g1 ⟨B2, 3, none⟩ (.int .i64 (1 + q)) (fun p hp => by have := (hbw1.out p hp).2; show p ≠ B2; omega)
              have k1 := owns_setCell n2 ⟨B2, 2, none⟩ (.int .i64 3) (fun p hp => by have := (hbw2.out p hp).2; show p ≠ B2; omega)
              have k2 := owns_setCell k1 ⟨B2, 3, none⟩ (.int .i64 (1 + q)) (fun p hp => by have := (hbw2.out p hp).2; show p ≠ B2; omega)
              refine ⟨fun j => ?_, g2, k2, (hb3.setCell (p := ⟨B2, 2, none⟩) hlow2 _).setCell (p := ⟨B2, 3, none⟩) hlow2 _, ?_, by rw [BRow.size_setCell, BRow.size_setCell]; exact hz3⟩
              · rw [hR.out, cellsAt_set (cellsAt_set hq0 2 (by simp) (.int .i64 3)) 3 (by simp) (.int .i64 (1 + q)) j]
                unfold cDone cNum cBase
                rw [HQ.out]
                rfl
              · rw [World.cell?_setCell_other _ _ _ _ (by intro he; cases he), World.cell?_setCell_other _ _ _ _ (by intro he; cases he)]
                exact d0
            · have hR : Hid (cRec masks x = cOpen masks x) := by show _ = _; unfold cRec; rw [← HH.out]; rfl
              have b5 := hq0 5; have b6 := hq0 6; have b7 := hq0 7; have b8 := hq0 8
              have f5 := hqf 5; have f6 := hqf 6; have f7 := hqf 7; have f8 := hqf 8
              simp only [cBase, Rc.cs, List.getElem?_cons_zero, List.getElem?_cons_succ] at b5 b6 b7 b8
              go_upto_region 18 with (go_at_call 19; refine (hp4.out _).mono ?_; rintro e w' ⟨rfl, rfl⟩)
              have nb1 : ∀ p, u6.ownBlock = some p → p ≠ B2 := fun p hp => by have := (hbw1.out p hp).2; omega
              have nb2 : ∀ p, u7.ownBlock = some p → p ≠ B2 := fun p hp => by have := (hbw2.out p hp).2; omega
              have g1 := owns_setCell (owns_setCell (owns_setCell (owns_setCell (n1) ⟨B2, 5, none⟩ (.bool true) nb1) ⟨B2, 6, none⟩ (.int .i64 3) nb1) ⟨B2, 7, none⟩ (.int .i64 (1 + q)) nb1) ⟨B2, 8, none⟩ (.int .i64 (cMask masks (cNum x))) nb1
              have g2 := owns_setCell (owns_setCell (owns_setCell (owns_setCell (n2) ⟨B2, 5, none⟩ (.bool true) nb2) ⟨B2, 6, none⟩ (.int .i64 3) nb2) ⟨B2, 7, none⟩ (.int .i64 (1 + q)) nb2) ⟨B2, 8, none⟩ (.int .i64 (cMask masks (cNum x))) nb2
              have gc := cellsAt_set (cellsAt_set (cellsAt_set (cellsAt_set hq0 5 (by simp) (.bool true)) 6 (by simp) (.int .i64 3)) 7 (by simp) (.int .i64 (1 + q))) 8 (by simp) (.int .i64 (cMask masks (cNum x)))
              have gf : ∀ j, ((((w3.setCell ⟨B2, 5, none⟩ (.bool true)).setCell ⟨B2, 6, none⟩ (.int .i64 3)).setCell ⟨B2, 7, none⟩ (.int .i64 (1 + q))).setCell ⟨B2, 8, none⟩ (.int .i64 (cMask masks (cNum x)))).frozen? ⟨B2, j, none⟩ = false := fun j => by rw [World.frozen?_setCell, World.frozen?_setCell, World.frozen?_setCell, World.frozen?_setCell]; exact hqf j
              have gb : Below w.heap.size w ((((w3.setCell ⟨B2, 5, none⟩ (.bool true)).setCell ⟨B2, 6, none⟩ (.int .i64 3)).setCell ⟨B2, 7, none⟩ (.int .i64 (1 + q))).setCell ⟨B2, 8, none⟩ (.int .i64 (cMask masks (cNum x)))) := (((hb3.setCell (p := ⟨B2, 5, none⟩) hlow2 _).setCell (p := ⟨B2, 6, none⟩) hlow2 _).setCell (p := ⟨B2, 7, none⟩) hlow2 _).setCell (p := ⟨B2, 8, none⟩) hlow2 _
              have gs : ((((w3.setCell ⟨B2, 5, none⟩ (.bool true)).setCell ⟨B2, 6, none⟩ (.int .i64 3)).setCell ⟨B2, 7, none⟩ (.int .i64 (1 + q))).setCell ⟨B2, 8, none⟩ (.int .i64 (cMask masks (cNum x)))).heap.size = w3.heap.size := by rw [BRow.size_setCell, BRow.size_setCell, BRow.size_setCell, BRow.size_setCell]
              have gN : ∀ j, ((((w3.setCell ⟨B2, 5, none⟩ (.bool true)).setCell ⟨B2, 6, none⟩ (.int .i64 3)).setCell ⟨B2, 7, none⟩ (.int .i64 (1 + q))).setCell ⟨B2, 8, none⟩ (.int .i64 (cMask masks (cNum x)))).cell? ⟨N, j, none⟩ = w3.cell? ⟨N, j, none⟩ := fun j => by
                rw [World.cell?_setCell_other _ _ _ _ (by intro he; cases he; exact Nat.lt_irrefl _ hz2'), World.cell?_setCell_other _ _ _ _ (by intro he; cases he; exact Nat.lt_irrefl _ hz2'), World.cell?_setCell_other _ _ _ _ (by intro he; cases he; exact Nat.lt_irrefl _ hz2'), World.cell?_setCell_other _ _ _ _ (by intro he; cases he; exact Nat.lt_irrefl _ hz2')]
              have y0 := (gN 0).trans d0
              have y3 := (gN 3).trans d3
              have gz : B2 < ((((w3.setCell ⟨B2, 5, none⟩ (.bool true)).setCell ⟨B2, 6, none⟩ (.int .i64 3)).setCell ⟨B2, 7, none⟩ (.int .i64 (1 + q))).setCell ⟨B2, 8, none⟩ (.int .i64 (cMask masks (cNum x)))).heap.size := by rw [gs]; exact hz3
              clear b5 b6 b7 b8 f5 f6 f7 f8 gs gN n1 n2 hb3 d0 d1 d3 hq0 hqf hz3
              generalize (((w3.setCell ⟨B2, 5, none⟩ (.bool true)).setCell ⟨B2, 6, none⟩ (.int .i64 3)).setCell ⟨B2, 7, none⟩ (.int .i64 (1 + q))).setCell ⟨B2, 8, none⟩ (.int .i64 (cMask masks (cNum x))) = w4 at g1 g2 gc gf gb y0 y3 gz ⊢
              have hsz1 : (newStr ++ x.block).size ≤ 9223372036854775807 := by rw [ByteArray.size_append]; have : newStr.size = 3 := rfl; omega
              go_wp2_with fail
              have ht := texts_any (newStr ++ x.block) w4.heap.size 0 (w4.alloc (.cells #[.string (newStr ++ x.block)] 9)) (by simp) (by rw [World.cell?_alloc_at _ _ _ _ rfl]; rfl)
              refine ht.mono ?_; rintro e w5 ⟨v, rfl, hv, hbt⟩
              have hal2 : Below w4.heap.size w4 (w4.alloc (.cells #[.string (newStr ++ x.block)] 9)) := (Below.refl _ _).alloc (Nat.le_refl _) _
              have h02 := hal2.trans (hbt.mono hal2.size)
              obtain ⟨av, cv', rfl⟩ := owns_form hv
              obtain ⟨bv', ov', rfl, hbv', hcv'⟩ := (Rd.of_owns hv).at1 0 (by omega)
              simp only [List.getElem?_cons_zero, Nat.add_zero] at hcv'
              have m1 := owns_setCell (owns_below g1 h02) ⟨B2, 9, none⟩ (.string (pad (newStr ++ x.block))) nb1
              have m2 := owns_setCell (owns_below g2 h02) ⟨B2, 9, none⟩ (.string (pad (newStr ++ x.block))) nb2
              have gc5 : ∀ j, w5.cell? ⟨B2, j, none⟩ = _ := fun j => (h02.cell (p := ⟨B2, j, none⟩) gz).trans (gc j)
              have gf5 : w5.frozen? ⟨B2, 9, none⟩ = false := (h02.frozen (p := ⟨B2, 9, none⟩) gz).trans (gf 9)
              have gm := cellsAt_set gc5 9 (by simp) (.string (pad (newStr ++ x.block)))
              have b9 := gc5 9
              have gb5 := (gb.trans (h02.mono gb.size)).setCell (p := ⟨B2, 9, none⟩) hlow2 (.string (pad (newStr ++ x.block)))
              have y05 : (w5.setCell ⟨B2, 9, none⟩ (.string (pad (newStr ++ x.block)))).cell? ⟨N, 0, none⟩ = some (.int .i64 x.known) := by
                rw [World.cell?_setCell_other _ _ _ _ (by intro he; cases he), h02.cell (p := ⟨N, 0, none⟩) (Nat.lt_trans hz2' gz)]
                exact y0
              have gz5 : B2 < (w5.setCell ⟨B2, 9, none⟩ (.string (pad (newStr ++ x.block)))).heap.size := by rw [BRow.size_setCell]; exact Nat.lt_of_lt_of_le gz h02.size
              have fin : Hid ((∀ j, (w5.setCell ⟨B2, 9, none⟩ (.string (pad (newStr ++ x.block)))).cell? ⟨B2, j, none⟩ = (cRec masks x).cs[j]?)) := by
                intro j
                rw [hR.out, gm j]
                unfold cOpen cBase
                rw [show cNum x = 1 + (q : Int) from by unfold cNum; rw [HQ.out]]
                rfl
              simp only [cBase, Rc.cs, List.set_cons_zero, List.set_cons_succ, List.getElem?_cons_zero, List.getElem?_cons_succ] at b9
              clear ht hv hbt hal2 h02 g1 g2 gc gc5 gf gb y0 y3 gz gm
              go_wp2_with fail
              go_meet
              exact ⟨fin.out, m1, m2, gb5, y05, gz5⟩
            · have hR : Hid (cRec masks x = cOpen masks x) := by show _ = _; unfold cRec; rw [← HH.out]; rfl
              have b5 := hq0 5; have b6 := hq0 6; have b7 := hq0 7; have b8 := hq0 8
              have f5 := hqf 5; have f6 := hqf 6; have f7 := hqf 7; have f8 := hqf 8
              simp only [cBase, Rc.cs, List.getElem?_cons_zero, List.getElem?_cons_succ] at b5 b6 b7 b8
              go_upto_region 18 with (go_at_call 19; refine (hp4.out _).mono ?_; rintro e w' ⟨rfl, rfl⟩)
              have nb1 : ∀ p, u6.ownBlock = some p → p ≠ B2 := fun p hp => by have := (hbw1.out p hp).2; omega
              have nb2 : ∀ p, u7.ownBlock = some p → p ≠ B2 := fun p hp => by have := (hbw2.out p hp).2; omega
              have g1 := owns_setCell (owns_setCell (owns_setCell (owns_setCell (n1) ⟨B2, 5, none⟩ (.bool true) nb1) ⟨B2, 6, none⟩ (.int .i64 3) nb1) ⟨B2, 7, none⟩ (.int .i64 (1 + q)) nb1) ⟨B2, 8, none⟩ (.int .i64 (cMask masks (cNum x))) nb1
              have g2 := owns_setCell (owns_setCell (owns_setCell (owns_setCell (n2) ⟨B2, 5, none⟩ (.bool true) nb2) ⟨B2, 6, none⟩ (.int .i64 3) nb2) ⟨B2, 7, none⟩ (.int .i64 (1 + q)) nb2) ⟨B2, 8, none⟩ (.int .i64 (cMask masks (cNum x))) nb2
              have gc := cellsAt_set (cellsAt_set (cellsAt_set (cellsAt_set hq0 5 (by simp) (.bool true)) 6 (by simp) (.int .i64 3)) 7 (by simp) (.int .i64 (1 + q))) 8 (by simp) (.int .i64 (cMask masks (cNum x)))
              have gf : ∀ j, ((((w3.setCell ⟨B2, 5, none⟩ (.bool true)).setCell ⟨B2, 6, none⟩ (.int .i64 3)).setCell ⟨B2, 7, none⟩ (.int .i64 (1 + q))).setCell ⟨B2, 8, none⟩ (.int .i64 (cMask masks (cNum x)))).frozen? ⟨B2, j, none⟩ = false := fun j => by rw [World.frozen?_setCell, World.frozen?_setCell, World.frozen?_setCell, World.frozen?_setCell]; exact hqf j
              have gb : Below w.heap.size w ((((w3.setCell ⟨B2, 5, none⟩ (.bool true)).setCell ⟨B2, 6, none⟩ (.int .i64 3)).setCell ⟨B2, 7, none⟩ (.int .i64 (1 + q))).setCell ⟨B2, 8, none⟩ (.int .i64 (cMask masks (cNum x)))) := (((hb3.setCell (p := ⟨B2, 5, none⟩) hlow2 _).setCell (p := ⟨B2, 6, none⟩) hlow2 _).setCell (p := ⟨B2, 7, none⟩) hlow2 _).setCell (p := ⟨B2, 8, none⟩) hlow2 _
              have gs : ((((w3.setCell ⟨B2, 5, none⟩ (.bool true)).setCell ⟨B2, 6, none⟩ (.int .i64 3)).setCell ⟨B2, 7, none⟩ (.int .i64 (1 + q))).setCell ⟨B2, 8, none⟩ (.int .i64 (cMask masks (cNum x)))).heap.size = w3.heap.size := by rw [BRow.size_setCell, BRow.size_setCell, BRow.size_setCell, BRow.size_setCell]
              have gN : ∀ j, ((((w3.setCell ⟨B2, 5, none⟩ (.bool true)).setCell ⟨B2, 6, none⟩ (.int .i64 3)).setCell ⟨B2, 7, none⟩ (.int .i64 (1 + q))).setCell ⟨B2, 8, none⟩ (.int .i64 (cMask masks (cNum x)))).cell? ⟨N, j, none⟩ = w3.cell? ⟨N, j, none⟩ := fun j => by
                rw [World.cell?_setCell_other _ _ _ _ (by intro he; cases he; exact Nat.lt_irrefl _ hz2'), World.cell?_setCell_other _ _ _ _ (by intro he; cases he; exact Nat.lt_irrefl _ hz2'), World.cell?_setCell_other _ _ _ _ (by intro he; cases he; exact Nat.lt_irrefl _ hz2'), World.cell?_setCell_other _ _ _ _ (by intro he; cases he; exact Nat.lt_irrefl _ hz2')]
              have y0 := (gN 0).trans d0
              have y3 := (gN 3).trans d3
              have gz : B2 < ((((w3.setCell ⟨B2, 5, none⟩ (.bool true)).setCell ⟨B2, 6, none⟩ (.int .i64 3)).setCell ⟨B2, 7, none⟩ (.int .i64 (1 + q))).setCell ⟨B2, 8, none⟩ (.int .i64 (cMask masks (cNum x)))).heap.size := by rw [gs]; exact hz3
              clear b5 b6 b7 b8 f5 f6 f7 f8 gs gN n1 n2 hb3 d0 d1 d3 hq0 hqf hz3
              generalize (((w3.setCell ⟨B2, 5, none⟩ (.bool true)).setCell ⟨B2, 6, none⟩ (.int .i64 3)).setCell ⟨B2, 7, none⟩ (.int .i64 (1 + q))).setCell ⟨B2, 8, none⟩ (.int .i64 (cMask masks (cNum x))) = w4 at g1 g2 gc gf gb y0 y3 gz ⊢
              have hsz1 : (newStr ++ x.block).size ≤ 9223372036854775807 := by rw [ByteArray.size_append]; have : newStr.size = 3 := rfl; omega
              go_wp2_with fail
              have ht := texts_any (newStr ++ x.block) w4.heap.size 0 (w4.alloc (.cells #[.string (newStr ++ x.block)] 9)) (by simp) (by rw [World.cell?_alloc_at _ _ _ _ rfl]; rfl)
              refine ht.mono ?_; rintro e w5 ⟨v, rfl, hv, hbt⟩
              have hal2 : Below w4.heap.size w4 (w4.alloc (.cells #[.string (newStr ++ x.block)] 9)) := (Below.refl _ _).alloc (Nat.le_refl _) _
              have h02 := hal2.trans (hbt.mono hal2.size)
              obtain ⟨av, cv', rfl⟩ := owns_form hv
              obtain ⟨bv', ov', rfl, hbv', hcv'⟩ := (Rd.of_owns hv).at1 0 (by omega)
              simp only [List.getElem?_cons_zero, Nat.add_zero] at hcv'
              have m1 := owns_setCell (owns_below g1 h02) ⟨B2, 9, none⟩ (.string (pad (newStr ++ x.block))) nb1
              have m2 := owns_setCell (owns_below g2 h02) ⟨B2, 9, none⟩ (.string (pad (newStr ++ x.block))) nb2
              have gc5 : ∀ j, w5.cell? ⟨B2, j, none⟩ = _ := fun j => (h02.cell (p := ⟨B2, j, none⟩) gz).trans (gc j)
              have gf5 : w5.frozen? ⟨B2, 9, none⟩ = false := (h02.frozen (p := ⟨B2, 9, none⟩) gz).trans (gf 9)
              have gm := cellsAt_set gc5 9 (by simp) (.string (pad (newStr ++ x.block)))
              have b9 := gc5 9
              have gb5 := (gb.trans (h02.mono gb.size)).setCell (p := ⟨B2, 9, none⟩) hlow2 (.string (pad (newStr ++ x.block)))
              have y05 : (w5.setCell ⟨B2, 9, none⟩ (.string (pad (newStr ++ x.block)))).cell? ⟨N, 0, none⟩ = some (.int .i64 x.known) := by
                rw [World.cell?_setCell_other _ _ _ _ (by intro he; cases he), h02.cell (p := ⟨N, 0, none⟩) (Nat.lt_trans hz2' gz)]
                exact y0
              have gz5 : B2 < (w5.setCell ⟨B2, 9, none⟩ (.string (pad (newStr ++ x.block)))).heap.size := by rw [BRow.size_setCell]; exact Nat.lt_of_lt_of_le gz h02.size
              have fin : Hid ((∀ j, (w5.setCell ⟨B2, 9, none⟩ (.string (pad (newStr ++ x.block)))).cell? ⟨B2, j, none⟩ = (cRec masks x).cs[j]?)) := by
                intro j
                rw [hR.out, gm j]
                unfold cOpen cBase
                rw [show cNum x = 1 + (q : Int) from by unfold cNum; rw [HQ.out]]
                rfl
              simp only [cBase, Rc.cs, List.set_cons_zero, List.set_cons_succ, List.getElem?_cons_zero, List.getElem?_cons_succ] at b9
              clear ht hv hbt hal2 h02 g1 g2 gc gc5 gf gb y0 y3 gz gm
              go_wp2_with fail
              go_meet
              exact ⟨fin.out, m1, m2, gb5, y05, gz5⟩
          case rest =>
            obtain ⟨hq4, n1, n2, hb4, e0, hz4⟩ := hcut
            have HPk := Lib.hid (fun W => pick_any x.known 5 x1 (by omega) (by omega) W)
            obtain ⟨g, hg⟩ : ∃ g, g = pk x.known 5 := ⟨_, rfl⟩
            rw [← hg] at HPk
            have HG := Lib.hid hg
            clear hg
            go_wp2_with (first | (go_at_call 19; refine (HPk.out _).mono ?_; rintro e w' ⟨rfl, rfl⟩) | (at_builtin; refine wpList_append_own _ rfl (.tmp 75) (.tmp 80) 25 rfl w.heap.size 4 i0 (.bool false) 1 1 Try.underlying25 hi hz0 hz1 hz2 rfl (by decide) _ _ _ rfl (n1.alloc _) ⟨wc.heap.size, 0, none⟩ 1 1 [.bool (g != 0)] rfl rfl ?c1 ?c2 ?c3 ?c4 ?c5 ?_))
            case c1 =>
              intro j u hj
              match j, hj with
              | 0, hj => simp at hj; subst hj; simp [Addr.add]
            case c2 => intro u hu; simp at hu; subst hu; rfl
            case c3 => unfold maxLen; omega
            case c4 => omega
            case c5 => have := hb4.size; simp; omega
            · intro v1 w5 o1 hg1 _
              have hb5 := (hb4.alloc hb4.size (.cells #[.bool (g != 0)] 4)).grown hg1 (by have := hb4.size; simp; omega) (fun q hq => (hbw1.out q hq).1)
              have o2 := owns_other ((owns_below n2 ((Below.refl _ _).alloc (Nat.le_refl _) (.cells #[.bool (g != 0)] 4)))) (n1.alloc (.cells #[.bool (g != 0)] 4)) (by decide) hg1
              have hq5 : ∀ j, w5.cell? ⟨B2, j, none⟩ = (cRec masks x).cs[j]? := fun j => by
                rw [World.cell?_of_block (a := ⟨B2, j, none⟩) (hg1.block B2 (by simp; omega) (by intro he; have h2 := (hbw1.out _ he.symm).2; exact Nat.lt_irrefl _ h2)), World.cell?_alloc_past _ _ _ hz4]
                exact hq4 j
              clear n1 n2 hb4 hq4 e0 hg1
              have HTk : Hid (((raw.take (k + 1)).map cKnown).map Value.bool = ((raw.take k).map cKnown).map Value.bool ++ [.bool (g != 0)]) := by
                show _ = _
                rw [HT.out, List.map_append, List.map_append, HG.out]
                rfl
              have HTr : Hid (((raw.take (k + 1)).map (cRec masks)).flatMap Rc.cs = ((raw.take k).map (cRec masks)).flatMap Rc.cs ++ (cRec masks x).cs) := by
                show _ = _
                rw [HT.out, List.map_append, List.flatMap_append]
                simp
              generalize cRec masks x = R at hq5 HTr
              have q0 := hq5 0; have q1 := hq5 1; have q2 := hq5 2; have q3 := hq5 3; have q4 := hq5 4; have q5 := hq5 5; have q6 := hq5 6; have q7 := hq5 7; have q8 := hq5 8; have q9 := hq5 9
              simp only [Rc.cs, List.getElem?_cons_zero, List.getElem?_cons_succ] at q0 q1 q2 q3 q4 q5 q6 q7 q8 q9
              have O1 : Hid (w5.ownsRow w.heap.size 4 1 v1 (k + 1) (((raw.take (k + 1)).map cKnown).map Value.bool)) := by
                show World.ownsRow _ _ _ _ _ _ _
                rw [HTk.out]
                simpa using o1
              clear hq5 o1
              go_wp2_with (at_builtin; refine wpList_append_own _ rfl (.tmp 82) (.tmp 84) 26 rfl w.heap.size 37 j0 _ 10 96 Try.underlying26 hj hy0 hy1 hy2 rfl (by decide) _ _ _ rfl (o2.alloc _) ⟨w5.heap.size, 0, none⟩ 1 1 R.cs rfl rfl ?e1 ?e2 ?e3 ?e4 ?e5 ?_)
              case e1 =>
                intro j u hj
                rw [Go.WideShapes.add_plain, Nat.zero_add, World.cell?_alloc_at _ _ _ _ rfl]
                simpa using hj
              case e2 =>
                intro u hu
                simp only [Rc.cs, List.mem_cons, List.not_mem_nil, or_false] at hu
                rcases hu with rfl | rfl | rfl | rfl | rfl | rfl | rfl | rfl | rfl | rfl <;> rfl
              case e3 => unfold maxLen; omega
              case e4 => omega
              case e5 => have := hb5.size; simp; omega
              · intro v2 w6 o3 hg2 _
                have hb6 := (hb5.alloc hb5.size _).grown hg2 (by have := hb5.size; simp; omega) (fun q hq => (hbw2.out q hq).1)
                have O1' := Lib.hid (owns_other (owns_below O1.out ((Below.refl _ _).alloc (Nat.le_refl _) _)) (o2.alloc _) (by decide) hg2)
                have O2 : Hid (w6.ownsRow w.heap.size 37 10 v2 (k + 1) (((raw.take (k + 1)).map (cRec masks)).flatMap Rc.cs)) := by
                  show World.ownsRow _ _ _ _ _ _ _
                  rw [HTr.out, List.map_take]
                  exact o3
                have HB := Lib.hid hb6
                clear o2 o3 hg2 hb6 hb5
                go_wp2_with fail
                go_roundw
                case rel => exact ⟨k + 1, by omega, by omega, by go_num, O1'.out, O2.out, HB.out⟩
                case measure => simp [intOf]; omega
      · obtain rfl : k = 6 := by omega
        have e : (six raw).length = 6 := by unfold six; rw [List.length_take]; omega
        go_wp2_with fail
        go_ret2
        exact ⟨_, _, rfl, by rw [e]; exact hown1, by rw [e]; exact hown2, hb⟩
    · obtain rfl : k = raw.length := by omega
      have e : six raw = raw := by unfold six; rw [List.take_of_length_le hk6]
      rw [List.take_length] at hown1 hown2
      go_wp2_with fail
      go_ret2
      exact ⟨_, _, rfl, by rw [e]; exact hown1, by rw [e]; exact hown2, hb⟩
end Go.Proofs.Ytaeeflfhjmjpjaa
