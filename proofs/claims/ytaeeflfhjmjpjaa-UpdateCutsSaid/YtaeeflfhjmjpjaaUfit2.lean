/- law16.Fit. -/
import Derived.Test.YtaeeflfhjmjpjaaUfit
namespace Go.Proofs.Ytaeeflfhjmjpjaa
open Go.RowKit SlRd
set_option linter.unusedVariables false

theorem pick33_pos (c n : Int) (hc : 0 ≤ c) (hc2 : c ≤ 9223372036854775807) (hn : 0 < n) (hn2 : n ≤ 9223372036854775807) (w : World) :
    Calls Try.prog 33 #[.int .i64 c, .int .i64 n] w fun e w' => e = .returned (.int .i64 (c % n)) ∧ w = w' := by
  go_enter Try.func33, Try.ntmps33
  go_wp2
  go_ret
  exact ⟨rfl, rfl⟩
theorem pick33_neg (c n : Int) (hc : c < 0) (hc2 : -9223372036854775808 ≤ c) (hn : 0 < n) (hn2 : n ≤ 9223372036854775807) (w : World) :
    Calls Try.prog 33 #[.int .i64 c, .int .i64 n] w fun e w' => e = .returned (.int .i64 ((-(c + 1)) % n)) ∧ w = w' := by
  go_enter Try.func33, Try.ntmps33
  have e : -(c + 1).tmod n = (-(c + 1)) % n := by
    rw [← Int.neg_tmod, Int.tmod_eq_emod_of_nonneg (by omega)]
  have E := Lib.hid e
  clear e
  go_wp2
  go_ret
  exact ⟨by rw [← E.out]; rfl, rfl⟩
theorem pick33_any (c n : Int) (hc : -9223372036854775808 ≤ c ∧ c ≤ 9223372036854775807) (hn : 0 < n) (hn2 : n ≤ 9223372036854775807) (w : World) :
    Calls Try.prog 33 #[.int .i64 c, .int .i64 n] w fun e w' => e = .returned (.int .i64 (pk c n)) ∧ w = w' := by
  unfold pk
  split
  · exact pick33_pos c n (by assumption) hc.2 hn hn2 w
  · exact pick33_neg c n (by omega) hc.1 hn hn2 w

def colsK (m k : Nat) : List Nat := (List.range k).filter fun i => m.testBit i
def colsI (m : Nat) : List Int := (colsK m 6).map fun i : Nat => (i : Int)
def NV' (l : List Nat) : List Value := l.map fun n : Nat => Value.int .i64 n
theorem colsI_NV (m : Nat) : (colsI m).map (Value.int .i64) = NV' (colsK m 6) := by unfold colsI NV'; rw [List.map_map]; rfl
theorem colsK_succ (m k : Nat) : colsK m (k + 1) = if m.testBit k then colsK m k ++ [k] else colsK m k := by
  unfold colsK
  rw [List.range_succ, List.filter_append]
  cases h : m.testBit k <;> simp [h]
theorem colsK_len (m k : Nat) : (colsK m k).length ≤ k := by
  have := List.length_filter_le (fun i => m.testBit i) (List.range k)
  rwa [List.length_range] at this
theorem colsI_pos : ∀ m, m < 64 → 0 < m → 0 < (colsI m).length := by decide +kernel
theorem maskOf_colsI : ∀ m, m < 64 → maskOf (colsI m) = m := by decide +kernel
theorem colsI_rise (m : Nat) : (colsI m).Pairwise (· < ·) := by
  unfold colsI colsK
  rw [List.pairwise_map]
  refine List.Pairwise.filter _ (List.Pairwise.imp ?_ List.pairwise_lt_range)
  intro a b h
  omega
theorem colsI_bd (m : Nat) : ∀ c ∈ colsI m, 0 ≤ c ∧ c < 6 := by
  intro c hc
  obtain ⟨i, hi, rfl⟩ := List.mem_map.1 hc
  have := List.mem_range.1 (List.mem_filter.1 hi).1
  omega
/-- a raw update -/
structure Rw where
  stripe : Int
  mask : Int
  epoch : Int
  seq : Int
  texts : List ByteArray
def fM (x : Rw) : Nat := (1 + pk x.mask 63).toNat
def fC (x : Rw) : List Int := colsI (fM x)
def fB (x : Rw) : List ByteArray := txts x.texts (fC x).length
def fS (x : Rw) : Int := pk x.stripe 8
def fE (x : Rw) : Int := 1 + pk x.epoch 9
def fQ (x : Rw) : Int := 1 + pk x.seq 9
theorem fM_bd (x : Rw) : 1 ≤ fM x ∧ fM x < 64 := by
  have := pk_bd x.mask 63 (by omega)
  unfold fM
  omega
theorem fits_of (x : Rw) : Fits (fS x) (fE x) (fQ x) (fC x) (fB x) := by
  have b1 := pk_bd x.stripe 8 (by omega)
  have b2 := pk_bd x.epoch 9 (by omega)
  have b3 := pk_bd x.seq 9 (by omega)
  have b4 := fM_bd x
  exact ⟨b1.1, b1.2, by unfold fE; omega, by unfold fE; omega, by unfold fQ; omega, by unfold fQ; omega, txts_len _ _, colsI_pos _ b4.2 (by omega), colsI_rise _, colsI_bd _, txts_size _ _⟩
def Rw.ok (x : Rw) : Prop := (-9223372036854775808 ≤ x.stripe ∧ x.stripe ≤ 9223372036854775807) ∧ (-9223372036854775808 ≤ x.mask ∧ x.mask ≤ 9223372036854775807) ∧ (-9223372036854775808 ≤ x.epoch ∧ x.epoch ≤ 9223372036854775807) ∧ (-9223372036854775808 ≤ x.seq ∧ x.seq ≤ 9223372036854775807)

theorem size34 : (Try.prog.info? 34).map (·.size) = some 2 := by kernel_rfl
theorem res28 {W : World} {tmps : Array Value} {R : Nat} {a b c : Value} {cs : List Value} (h2 : tmps.getD 2 undef = a) (h3 : tmps.getD 3 undef = .pointer (some ⟨R, 0, none⟩)) (h4 : tmps.getD 4 undef = b) (h5 : tmps.getD 5 undef = c) (r3 : W.rangeAt R 0 cs) (l3 : cs.length = 2) :
    (results Try.f28 tmps).run Try.prog W = .ok (.tuple #[a, .agg cs.toArray, b, c]) W := by
  have e3 := run_loadVar_mid (P := Try.prog) W R 0 34 cs _ r3 Try.underlying34 rfl (by rw [size34, l3])
  rw [Array.getD_eq_getD_getElem?] at h2 h3 h4 h5
  simp [results, Try.results28, h2, h3, h4, h5, e3, asAddr]

set_option maxRecDepth 100000 in
set_option maxHeartbeats 3200000 in
theorem fit_any (x : Rw) (hx : x.ok) (vt : Value) (w : World) (hr : Rd w 1 vt x.texts.length (x.texts.map Value.string)) (hrl : x.texts.length ≤ 140737488351232) :
    Calls Try.prog 28 #[.agg #[.int .i64 x.stripe, .int .i64 x.mask, .int .i64 x.epoch, .int .i64 x.seq, vt]] w fun e w' => ∃ vc vl, e = .returned (.tuple #[.int .i64 (fS x), .agg #[.int .i64 (fE x), .int .i64 (fQ x)], vc, vl]) ∧
      w'.ownsRow w.heap.size 3 1 vc (fC x).length ((fC x).map (Value.int .i64)) ∧ w'.ownsRow w.heap.size 9 1 vl (fC x).length ((fB x).map Value.string) ∧ Below w.heap.size w w' := by
  have HP63 := Lib.hid (fun W => pick33_any x.mask 63 hx.2.1 (by omega) (by omega) W)
  have HP8 := Lib.hid (fun W => pick33_any x.stripe 8 hx.1 (by omega) (by omega) W)
  have HPE := Lib.hid (fun W => pick33_any x.epoch 9 hx.2.2.1 (by omega) (by omega) W)
  have HPQ := Lib.hid (fun W => pick33_any x.seq 9 hx.2.2.2 (by omega) (by omega) W)
  have bS := pk_bd x.stripe 8 (by omega)
  have bE := pk_bd x.epoch 9 (by omega)
  have bQ := pk_bd x.seq 9 (by omega)
  have bM := pk_bd x.mask 63 (by omega)
  have hM := fM_bd x
  have hMe : (1 + pk x.mask 63) = ((fM x : Nat) : Int) := by unfold fM; omega
  have HME := Lib.hid hMe
  have HFS : Hid (fS x = pk x.stripe 8) := Lib.hid rfl
  have HFE : Hid (fE x = 1 + pk x.epoch 9) := Lib.hid rfl
  have HFQ : Hid (fQ x = 1 + pk x.seq 9) := Lib.hid rfl
  have HFC : Hid (fC x = (colsK (fM x) 6).map fun i : Nat => (i : Int)) := Lib.hid rfl
  have HTX : Hid (∀ W v, Rd W 1 v x.texts.length (x.texts.map Value.string) → ∀ m, m ≤ 6 → Calls Try.prog 39 #[v, .int .i64 (m : Nat), .int .i64 16] W fun e w' => ∃ v', e = .returned v' ∧ w'.ownsRow W.heap.size 9 1 v' m ((txts x.texts m).map Value.string) ∧ Below W.heap.size W w') := Lib.hid fun W v h m hm => texts_gen x.texts v m (by omega) W h hrl
  have HFB : Hid (fB x = txts x.texts (fC x).length) := Lib.hid rfl
  obtain ⟨xs, xm, xe, xq, xt⟩ := x
  simp only at *
  generalize fS ⟨xs, xm, xe, xq, xt⟩ = S at *
  generalize fE ⟨xs, xm, xe, xq, xt⟩ = E at *
  generalize fQ ⟨xs, xm, xe, xq, xt⟩ = Q at *
  generalize fC ⟨xs, xm, xe, xq, xt⟩ = C at *
  generalize fB ⟨xs, xm, xe, xq, xt⟩ = L at *
  generalize fM ⟨xs, xm, xe, xq, xt⟩ = m at *
  generalize pk xs 8 = ps at HP8 bS HFS
  generalize pk xe 9 = pe at HPE bE HFE
  generalize pk xq 9 = pq at HPQ bQ HFQ
  clear hMe hx
  go_enter Try.func28, Try.ntmps28
  go_wp2_with fail
  refine (HP63.out _).mono ?_; rintro e w1 ⟨rfl, rfl⟩
  rw [show (pk xm 63) = (m : Int) - 1 from by have := HME.out; omega]
  go_wp2_with fail
  have hb0 : Below w.heap.size w ((w.alloc (.cells #[.int .i64 xs, .int .i64 xm, .int .i64 xe, .int .i64 xq, vt] 53)).alloc (.cells #[.int .i64 0, .int .i64 0] 34)) := ((Below.refl _ _).alloc (Nat.le_refl _) _).alloc (by simp) _
  have bX : Blk ((w.alloc (.cells #[.int .i64 xs, .int .i64 xm, .int .i64 xe, .int .i64 xq, vt] 53)).alloc (.cells #[.int .i64 0, .int .i64 0] 34)) w.heap.size 53 #[.int .i64 xs, .int .i64 xm, .int .i64 xe, .int .i64 xq, vt] := (Below.heap_alloc _ _ _ (by simp)).trans (Blk.new w 53 _)
  have bR : Blk ((w.alloc (.cells #[.int .i64 xs, .int .i64 xm, .int .i64 xe, .int .i64 xq, vt] 53)).alloc (.cells #[.int .i64 0, .int .i64 0] 34)) (w.heap.size + 1) 34 #[.int .i64 0, .int .i64 0] := by
    have := Blk.new (w.alloc (.cells #[.int .i64 xs, .int .i64 xm, .int .i64 xe, .int .i64 xq, vt] 53)) 34 #[.int .i64 0, .int .i64 0]
    rw [show (w.alloc (.cells #[.int .i64 xs, .int .i64 xm, .int .i64 xe, .int .i64 xq, vt] 53)).heap.size = w.heap.size + 1 from by simp] at this
    exact this
  have hr0 := hr.below hb0
  have hXR : w.heap.size ≠ w.heap.size + 1 := by omega
  have hwR : w.heap.size ≤ w.heap.size + 1 := by omega
  generalize ((w.alloc (.cells #[.int .i64 xs, .int .i64 xm, .int .i64 xe, .int .i64 xq, vt] 53)).alloc (.cells #[.int .i64 0, .int .i64 0] 34)) = w0 at hb0 bX bR hr0 ⊢
  generalize w.heap.size + 1 = R at bR hXR hwR ⊢
  generalize hX : w.heap.size = X at bX hXR ⊢
  have HX := Lib.hid hX
  clear hX hr
  go_loopw [6, 7, 8] (fun q v i wr => ∃ k : Nat, k ≤ 6 ∧ i = .int .i64 k ∧ q = .int .i64 (m / 2 ^ k : Nat) ∧ wr.ownsRow w0.heap.size 3 1 v (colsK m k).length (NV' (colsK m k)) ∧ Below w0.heap.size w0 wr) (fun _ _ i _ => 6 - (intOf i).toNat)
  case atStart => exact ⟨0, Nat.zero_le _, rfl, by go_num, World.ownsRow_nil _ _ _ _, Below.refl _ _⟩
  case round =>
    obtain ⟨k, hk, rfl, rfl, hown, hb⟩ := hrel
    have hlen := colsK_len m k
    by_cases hlt : k < 6
    · have HS := Lib.hid (colsK_succ m k)
      have hbit : m.testBit k = decide (m / 2 ^ k % 2 = 1) := Nat.testBit_eq_decide_div_mod_eq
      have hdiv : m / 2 ^ (k + 1) = m / 2 ^ k / 2 := by rw [Nat.pow_succ, Nat.div_div_eq_div_mul]
      have HD := Lib.hid hdiv
      have hd64 : m / 2 ^ k < 64 := Nat.lt_of_le_of_lt (Nat.div_le_self _ _) hM.2
      generalize m / 2 ^ k = d at hbit hdiv HD hd64
      by_cases hq : d % 2 = 1
      · have hb1 : m.testBit k = true := by rw [hbit]; exact decide_eq_true hq
        have HS2 : Hid (colsK m (k + 1) = colsK m k ++ [k]) := Lib.hid (by rw [HS.out, hb1]; rfl)
        have e1 : ((d : Int) % 2 == 1) = true := by rw [beq_iff_eq]; omega
        clear hbit hdiv hb1
        go_wp2_with (at_builtin; refine wpList_app ap23 (by rfl) _ _ rfl w0 (below_al hb _) _ _ (NV' (colsK m k)) rfl (hown.alloc _) _ 1 1 [.int .i64 k] rfl (Rd.list wr [.int .i64 k] 3 1 1 rfl) (fun u hu => by simp at hu; subst hu; rfl) (by unfold maxLen; omega) (by omega) ?_)
        intro v4 w4 own4 _ hb4
        have HO : Hid (w4.ownsRow w0.heap.size 3 1 v4 (colsK m (k + 1)).length (NV' (colsK m (k + 1)))) := by
          show World.ownsRow _ _ _ _ _ _ _
          rw [HS2.out, List.length_append]
          unfold NV'
          rw [List.map_append]
          exact own4
        have HB := Lib.hid hb4
        clear hown hb own4 hb4
        go_wp2_with fail
        go_roundw
        case rel => exact ⟨k + 1, by omega, by go_num, by rw [HD.out]; go_num, HO.out, HB.out⟩
        case measure => simp [intOf]; omega
      · have hb1 : m.testBit k = false := by rw [hbit]; exact decide_eq_false hq
        have HS2 : Hid (colsK m (k + 1) = colsK m k) := Lib.hid (by rw [HS.out, hb1]; rfl)
        have e1 : ((d : Int) % 2 == 1) = false := by rw [beq_eq_false_iff_ne]; omega
        clear hbit hdiv hb1
        go_wp2_with fail
        go_roundw
        case rel => exact ⟨k + 1, by omega, by go_num, by rw [HD.out]; go_num, by rw [HS2.out]; exact hown, hb⟩
        case measure => simp [intOf]; omega
    · obtain rfl : k = 6 := by omega
      have hC6 : C.length = (colsK m 6).length := by rw [HFC.out, List.length_map]
      obtain ⟨a7, c7, rfl⟩ : ∃ a c, u7 = .slice a (colsK m 6).length c := by
        obtain ⟨_, a, c, hv, _⟩ := Rd.of_owns hown
        exact ⟨a, c, hv⟩
      have hrd : Rd wr.drew 1 vt xt.length (xt.map Value.string) := hr0.below hb.drew
      have bX2 : Blk wr.drew X 53 #[.int .i64 xs, .int .i64 xm, .int .i64 xe, .int .i64 xq, vt] := (hb.block X bX.lt).trans bX
      have bR2 : Blk wr.drew R 34 #[.int .i64 0, .int .i64 0] := (hb.block R bR.lt).trans bR
      have HOWN := Lib.hid (show wr.drew.ownsRow w0.heap.size 3 1 (.slice a7 (colsK m 6).length c7) (colsK m 6).length (NV' (colsK m 6)) from hown)
      have hb0s := hb0.size
      have HBB := Lib.hid (show Below w.heap.size w wr.drew from hb0.trans (hb.drew.mono hb0.size))
      have HT2 : Hid (∀ w', Below wr.drew.heap.size wr.drew w' → Blk w' X 53 #[.int .i64 xs, .int .i64 xm, .int .i64 xe, .int .i64 xq, vt] ∧ Blk w' R 34 #[.int .i64 0, .int .i64 0]) := Lib.hid fun w' h => ⟨(h.block X bX2.lt).trans bX2, (h.block R bR2.lt).trans bR2⟩
      have FULL : Hid (∀ W', Blk W' X 53 #[.int .i64 xs, .int .i64 xm, .int .i64 xe, .int .i64 xq, vt] → W'.cell? ⟨X, 0, none⟩ = some (.int .i64 xs) ∧ W'.cell? ⟨X, 2, none⟩ = some (.int .i64 xe) ∧ W'.cell? ⟨X, 3, none⟩ = some (.int .i64 xq) ∧ W'.cell? ⟨X, 4, none⟩ = some vt ∧ Blk W' X 53 #[.int .i64 xs, .int .i64 xm, .int .i64 xe, .int .i64 xq, vt]) := Lib.hid fun W' h => ⟨h.cell 0, h.cell 2, h.cell 3, h.cell 4, h⟩
      have hRo : ∀ q, (Value.slice a7 (colsK m 6).length c7).ownBlock = some q → q ≠ R := fun q hq => by
        have := (owns_lt hown q hq).1
        have := bR.lt
        omega
      have hRb := bR.lt
      have HRO := Lib.hid hRo
      clear hown hb bX bR hr0 hb0 bR2 hRo
      have wq1 : IntKind.i64.wrap (1 + pe) = 1 + pe := IntWalk.i64_in _ (by omega)
      have wq2 : IntKind.i64.wrap (1 + pq) = 1 + pq := IntWalk.i64_in _ (by omega)
      have hXs0 : w.heap.size ≤ w0.heap.size := hb0s
      go_upto_region 9 with fail
      go_region_held3 (fun W' => W'.cell? ⟨X, 0, none⟩ = some (.int .i64 xs) ∧ W'.cell? ⟨X, 2, none⟩ = some (.int .i64 xe) ∧ W'.cell? ⟨X, 3, none⟩ = some (.int .i64 xq) ∧ W'.cell? ⟨X, 4, none⟩ = some vt ∧ Blk W' X 53 #[.int .i64 xs, .int .i64 xm, .int .i64 xe, .int .i64 xq, vt])
        (first
          | exact FULL.out _ bX2
          | (go_split_ands; exact FULL.out _ (by assumption))
          | (go_split_ands; exact FULL.out _ (Blk.far (Blk.far (by assumption) hXR _) hXR _)))
        (first
          | (go_at_call_of 33 (xs); refine (HP8.out _).mono ?_; rintro e w' ⟨rfl, rfl⟩)
          | (go_at_call_of 33 (xe); refine (HPE.out _).mono ?_; rintro e w' ⟨rfl, rfl⟩)
          | (go_at_call_of 33 (xq); refine (HPQ.out _).mono ?_; rintro e w' ⟨rfl, rfl⟩)
          | (go_at_call 39; refine (HTX.out _ _ hrd _ (by omega)).mono ?_; rintro e w' ⟨vL, rfl, oL, bL⟩; obtain ⟨bXT, bRT⟩ := HT2.out _ bL; have z0 := bRT.cell 0; have z1 := bRT.cell 1; have g0 := bRT.frozen 0; have g1 := bRT.frozen 1; simp only [List.getElem?_toArray, List.getElem?_cons_zero, List.getElem?_cons_succ] at z0 z1))
      go_split_ands
      have bF : Blk ((w'.setCell ⟨R, 0, none⟩ (.int .i64 (1 + pe))).setCell ⟨R, 1, none⟩ (.int .i64 (1 + pq))) R 34 #[.int .i64 (1 + pe), .int .i64 (1 + pq)] := (bRT.set_ 0 _).set_ 1 _
      have rF : ((w'.setCell ⟨R, 0, none⟩ (.int .i64 (1 + pe))).setCell ⟨R, 1, none⟩ (.int .i64 (1 + pq))).rangeAt R 0 [.int .i64 (1 + pe), .int .i64 (1 + pq)] := range_of (fun j => by rw [bF.cell j]; simp)
      have oC := owns_setCell (owns_setCell (owns_below HOWN.out bL) ⟨R, 0, none⟩ (.int .i64 (1 + pe)) HRO.out) ⟨R, 1, none⟩ (.int .i64 (1 + pq)) HRO.out
      have hRl : R < wr.heap.size := by have := bX2.lt; have := (HT2.out _ (Below.refl _ _)).2.lt; exact this
      have hLR : ∀ q, vL.ownBlock = some q → q ≠ R := fun q hq => by
        have := (owns_lt oL q hq).1
        have h2 : wr.drew.heap.size = wr.heap.size := rfl
        omega
      have oF := owns_setCell (owns_setCell oL ⟨R, 0, none⟩ (.int .i64 (1 + pe)) hLR) ⟨R, 1, none⟩ (.int .i64 (1 + pq)) hLR
      have hbF := ((below_then HBB.out bL).setCell (p := ⟨R, 0, none⟩) (by have := HX.out; show w.heap.size ≤ R; omega) (.int .i64 (1 + pe))).setCell (p := ⟨R, 1, none⟩) (by have := HX.out; show w.heap.size ≤ R; omega) (.int .i64 (1 + pq))
      have OC := Lib.hid oC
      have OF := Lib.hid oF
      have HBF := Lib.hid hbF
      have hXs : w.heap.size ≤ wr.drew.heap.size := HBB.out.size
      clear bF oC oF hbF oL bL bRT bXT z0 z1 g0 g1 hrd bX2
      go_wp2_with fail
      refine bodyPost_ret (res28 rfl rfl rfl rfl rF rfl) rfl ⟨.slice a7 (colsK m 6).length c7, vL, by rw [HFS.out, HFE.out, HFQ.out]; rfl, ?_, ?_, HBF.out⟩
      · have h1 : C.map (Value.int .i64) = NV' (colsK m 6) := by rw [HFC.out]; exact colsI_NV m
        rw [h1, hC6]
        have := OC.out
        refine ⟨this.1, ?_⟩
        rcases this.2 with h | ⟨g, cap, cur, h1, h2, h3⟩
        · exact .inl h
        · exact .inr ⟨g, cap, cur, h1, Nat.le_trans hXs0 h2, h3⟩
      · rw [HFB.out, hC6]
        have := OF.out
        refine ⟨this.1, ?_⟩
        rcases this.2 with h | ⟨g, cap, cur, h1, h2, h3⟩
        · exact .inl h
        · exact .inr ⟨g, cap, cur, h1, Nat.le_trans hXs h2, h3⟩
end Go.Proofs.Ytaeeflfhjmjpjaa
