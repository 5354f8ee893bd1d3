/- The walk of Event: an event out of raw numbers. -/
import Derived.Test.YtojgibinokmmeaaAwake
namespace Go.Proofs.Ytojgibinokmmeaa
open Go.RowKit SlRd Lin
set_option linter.unusedVariables false

structure Raw where
  kind : Int
  letter : Int
  begin_ : Int
  long : Int
  how : Int
instance : Inhabited Raw := ⟨⟨0, 0, 0, 0, 0⟩⟩
@[reducible] def Raw.cs (x : Raw) : List Value := [.int .i64 x.kind, .int .i64 x.letter, .int .i64 x.begin_, .int .i64 x.long, .int .i64 x.how]
def Raw.ok (x : Raw) : Prop := (-9223372036854775808 ≤ x.kind ∧ x.kind ≤ 9223372036854775807) ∧ (-9223372036854775808 ≤ x.letter ∧ x.letter ≤ 9223372036854775807) ∧ (-9223372036854775808 ≤ x.begin_ ∧ x.begin_ ≤ 9223372036854775807) ∧
  (-9223372036854775808 ≤ x.long ∧ x.long ≤ 9223372036854775807) ∧ (-9223372036854775808 ≤ x.how ∧ x.how ≤ 9223372036854775807)
def lett (n : Nat) : ByteArray := if n = 0 then ⟨#[]⟩ else if n = 1 then ⟨#[97]⟩ else if n = 2 then ⟨#[98]⟩ else if n = 3 then ⟨#[99]⟩ else ⟨#[100]⟩
def errOf (h : Int) : Int := if h = 4 then 171 else if h = 6 then 170 else 0
def evOf (x : Raw) : Lin.Ev :=
  let c := lett (pk x.letter 5).toNat
  let b := 1 + pk x.begin_ 20
  ⟨0, b, if pk x.how 7 = 5 then 0 else b + 1 + pk x.long 8, if pk x.kind 3 = 0 then ⟨1, 0, ⟨#[]⟩⟩ else ⟨2, 0, c⟩, errOf (pk x.how 7), if pk x.kind 3 = 0 then c else ⟨#[]⟩⟩
theorem lett_cell (n : Nat) (hn : n < 5) (W : World) : (W.alloc (.cells #[.string ⟨#[]⟩, .string ⟨#[97]⟩, .string ⟨#[98]⟩, .string ⟨#[99]⟩, .string ⟨#[100]⟩] 9)).cell? ⟨W.heap.size, n, none⟩ = some (.string (lett n)) := by
  rw [World.cell?_alloc_at _ _ _ _ rfl]
  rcases n with _ | _ | _ | _ | _ | n
  · rfl
  · rfl
  · rfl
  · rfl
  · rfl
  · omega

set_option maxRecDepth 100000 in
set_option maxHeartbeats 1600000 in
theorem raw_any (x : Raw) (hx : x.ok) (w : World) : Calls Try.prog 16 #[.agg #[.int .i64 x.kind, .int .i64 x.letter, .int .i64 x.begin_, .int .i64 x.long, .int .i64 x.how]] w fun r w' =>
    r = .returned (Ev_ (evOf x)) ∧ Below w.heap.size w w' := by
  obtain ⟨h1, h2, h3, h4, h5⟩ := hx
  have HK := Lib.hid (pick_any x.kind 3 h1 (by omega) (by omega))
  have HL := Lib.hid (pick_any x.letter 5 h2 (by omega) (by omega))
  have HB := Lib.hid (pick_any x.begin_ 20 h3 (by omega) (by omega))
  have HG := Lib.hid (pick_any x.long 8 h4 (by omega) (by omega))
  have HH := Lib.hid (pick_any x.how 7 h5 (by omega) (by omega))
  have bk := pk_bd x.kind 3 (by omega)
  have bl := pk_bd x.letter 5 (by omega)
  have bb := pk_bd x.begin_ 20 (by omega)
  have bg := pk_bd x.long 8 (by omega)
  have bh := pk_bd x.how 7 (by omega)
  have HE : Hid (evOf x = ⟨0, 1 + pk x.begin_ 20, if pk x.how 7 = 5 then 0 else 1 + pk x.begin_ 20 + 1 + pk x.long 8, if pk x.kind 3 = 0 then ⟨1, 0, ⟨#[]⟩⟩ else ⟨2, 0, lett (pk x.letter 5).toNat⟩, errOf (pk x.how 7), if pk x.kind 3 = 0 then lett (pk x.letter 5).toNat else ⟨#[]⟩⟩) := Lib.hid rfl
  generalize evOf x = E at HE ⊢
  generalize pk x.kind 3 = qk at HK bk HE
  generalize pk x.begin_ 20 = qb at HB bb HE
  generalize pk x.long 8 = qg at HG bg HE
  generalize pk x.how 7 = qh at HH bh HE
  obtain ⟨n, hn⟩ : ∃ n : Nat, pk x.letter 5 = n := ⟨(pk x.letter 5).toNat, by omega⟩
  rw [hn] at HL bl HE
  have hn5 : n < 5 := by omega
  simp only [Int.toNat_natCast] at HE
  have hc2 : ∀ h : n < ([Value.string ⟨#[]⟩, .string ⟨#[97]⟩, .string ⟨#[98]⟩, .string ⟨#[99]⟩, .string ⟨#[100]⟩] : List Value).length, ([Value.string ⟨#[]⟩, .string ⟨#[97]⟩, .string ⟨#[98]⟩, .string ⟨#[99]⟩, .string ⟨#[100]⟩] : List Value)[n]'h = .string (lett n) := by
    intro h
    have := lett_cell n hn5 w
    rw [World.cell?_alloc_at _ _ _ _ rfl, List.getElem?_toArray, List.getElem?_eq_getElem h] at this
    exact Option.some.inj this
  have HC := Lib.hid hc2
  clear hc2
  generalize lett n = c at HC HE
  clear hn h1 h2 h3 h4 h5
  obtain ⟨rk, rl, rb, rg, rh⟩ := x
  go_enter Try.func16, Try.ntmps16
  go_wp2_with fail
  refine (HL.out _).mono ?_; rintro e w1 ⟨rfl, rfl⟩
  have hc := HC.out
  have i1 : (0 : Int) ≤ (n : Int) := by omega
  have i2 : (n : Int) < 5 := by omega
  go_upto_region 2 with fail
  clear hc
  go_wp2_with fail
  refine (HB.out _).mono ?_; rintro e w1 ⟨rfl, rfl⟩
  go_wp2_with fail
  refine (HK.out _).mono ?_; rintro e w1 ⟨rfl, rfl⟩
  obtain ⟨kk, hkk⟩ : ∃ kk : Int, kk = if qk = 0 then 1 else 2 := ⟨_, rfl⟩
  obtain ⟨dd, hdd⟩ : ∃ dd : ByteArray, dd = if qk = 0 then ⟨#[]⟩ else c := ⟨_, rfl⟩
  obtain ⟨tt, htt⟩ : ∃ tt : ByteArray, tt = if qk = 0 then c else ⟨#[]⟩ := ⟨_, rfl⟩
  have HKK := Lib.hid hkk
  have HDD := Lib.hid hdd
  have HTT := Lib.hid htt
  clear hkk hdd htt
  go_upto_if 20 with fail
  go_cut [] from 21 to 25 (fun wx => wx = (((w.alloc (.cells #[.int .i64 rk, .int .i64 rl, .int .i64 rb, .int .i64 rg, .int .i64 rh] 39)).alloc (.cells #[.int .i64 0, .int .i64 0, .int .i64 0, .int .i64 0, .int .i64 0, .string ⟨#[]⟩, .int .i64 0, .string ⟨#[]⟩] 31)).alloc (.cells #[.string ⟨#[]⟩, .string ⟨#[97]⟩, .string ⟨#[98]⟩, .string ⟨#[99]⟩, .string ⟨#[100]⟩] 9)).alloc (.cells #[.int .i64 0, .int .i64 (1 + qb), .int .i64 0, .int .i64 kk, .int .i64 0, .string dd, .int .i64 0, .string tt] 31))
  case first =>
    by_cases hq : qk = 0
    · subst hq
      go_wp2_with fail
      go_meet
      rw [HKK.out, HDD.out, HTT.out]
      rfl
    · have e1 : (qk != 0) = true := by simpa using hq
      go_wp2_with fail
      go_meet
      rw [HKK.out, HDD.out, HTT.out, if_neg hq, if_neg hq, if_neg hq]
  case rest =>
    subst hcut
    have bX : Blk (((w.alloc (.cells #[.int .i64 rk, .int .i64 rl, .int .i64 rb, .int .i64 rg, .int .i64 rh] 39)).alloc (.cells #[.int .i64 0, .int .i64 0, .int .i64 0, .int .i64 0, .int .i64 0, .string ⟨#[]⟩, .int .i64 0, .string ⟨#[]⟩] 31)).alloc (.cells #[.string ⟨#[]⟩, .string ⟨#[97]⟩, .string ⟨#[98]⟩, .string ⟨#[99]⟩, .string ⟨#[100]⟩] 9)) w.heap.size 39 #[.int .i64 rk, .int .i64 rl, .int .i64 rb, .int .i64 rg, .int .i64 rh] := (Below.heap_alloc _ _ _ (by simp; omega)).trans ((Below.heap_alloc _ _ _ (by simp)).trans (Blk.new w 39 _))
    have bR : Blk (((w.alloc (.cells #[.int .i64 rk, .int .i64 rl, .int .i64 rb, .int .i64 rg, .int .i64 rh] 39)).alloc (.cells #[.int .i64 0, .int .i64 0, .int .i64 0, .int .i64 0, .int .i64 0, .string ⟨#[]⟩, .int .i64 0, .string ⟨#[]⟩] 31)).alloc (.cells #[.string ⟨#[]⟩, .string ⟨#[97]⟩, .string ⟨#[98]⟩, .string ⟨#[99]⟩, .string ⟨#[100]⟩] 9)) (w.heap.size + 1) 31 #[.int .i64 0, .int .i64 0, .int .i64 0, .int .i64 0, .int .i64 0, .string ⟨#[]⟩, .int .i64 0, .string ⟨#[]⟩] := (Below.heap_alloc _ _ _ (by simp)).trans (by
      have := Blk.new (w.alloc (.cells #[.int .i64 rk, .int .i64 rl, .int .i64 rb, .int .i64 rg, .int .i64 rh] 39)) 31 #[.int .i64 0, .int .i64 0, .int .i64 0, .int .i64 0, .int .i64 0, .string ⟨#[]⟩, .int .i64 0, .string ⟨#[]⟩]
      rw [show (w.alloc (.cells #[.int .i64 rk, .int .i64 rl, .int .i64 rb, .int .i64 rg, .int .i64 rh] 39)).heap.size = w.heap.size + 1 from by simp] at this
      exact this)
    have hb : Below w.heap.size w (((w.alloc (.cells #[.int .i64 rk, .int .i64 rl, .int .i64 rb, .int .i64 rg, .int .i64 rh] 39)).alloc (.cells #[.int .i64 0, .int .i64 0, .int .i64 0, .int .i64 0, .int .i64 0, .string ⟨#[]⟩, .int .i64 0, .string ⟨#[]⟩] 31)).alloc (.cells #[.string ⟨#[]⟩, .string ⟨#[97]⟩, .string ⟨#[98]⟩, .string ⟨#[99]⟩, .string ⟨#[100]⟩] 9)) := (((Below.refl _ _).alloc (Nat.le_refl _) _).alloc (by simp) _).alloc (by simp; omega) _
    have hs : (((w.alloc (.cells #[.int .i64 rk, .int .i64 rl, .int .i64 rb, .int .i64 rg, .int .i64 rh] 39)).alloc (.cells #[.int .i64 0, .int .i64 0, .int .i64 0, .int .i64 0, .int .i64 0, .string ⟨#[]⟩, .int .i64 0, .string ⟨#[]⟩] 31)).alloc (.cells #[.string ⟨#[]⟩, .string ⟨#[97]⟩, .string ⟨#[98]⟩, .string ⟨#[99]⟩, .string ⟨#[100]⟩] 9)).heap.size = w.heap.size + 1 + 1 + 1 := by simp
    generalize (((w.alloc (.cells #[.int .i64 rk, .int .i64 rl, .int .i64 rb, .int .i64 rg, .int .i64 rh] 39)).alloc (.cells #[.int .i64 0, .int .i64 0, .int .i64 0, .int .i64 0, .int .i64 0, .string ⟨#[]⟩, .int .i64 0, .string ⟨#[]⟩] 31)).alloc (.cells #[.string ⟨#[]⟩, .string ⟨#[97]⟩, .string ⟨#[98]⟩, .string ⟨#[99]⟩, .string ⟨#[100]⟩] 9)) = w2 at bX bR hb hs ⊢
    generalize w.heap.size + 1 + 1 + 1 = N at hs ⊢
    subst hs
    have hRX : w.heap.size + 1 ≠ w.heap.size := by omega
    have hwR : w.heap.size ≤ w.heap.size + 1 := by omega
    generalize w.heap.size + 1 = R at bR hRX hwR ⊢
    generalize hX : w.heap.size = X at bX hRX ⊢
    have HX := Lib.hid hX
    clear hX
    have hE := (below_al hb (.cells #[.int .i64 0, .int .i64 (1 + qb), .int .i64 0, .int .i64 kk, .int .i64 0, .string dd, .int .i64 0, .string tt] 31))
    have bE : Blk (w2.alloc (.cells #[.int .i64 0, .int .i64 (1 + qb), .int .i64 0, .int .i64 kk, .int .i64 0, .string dd, .int .i64 0, .string tt] 31)) w2.heap.size 31 #[.int .i64 0, .int .i64 (1 + qb), .int .i64 0, .int .i64 kk, .int .i64 0, .string dd, .int .i64 0, .string tt] := Blk.new _ _ _
    have hal : Below w2.heap.size w2 (w2.alloc (.cells #[.int .i64 0, .int .i64 (1 + qb), .int .i64 0, .int .i64 kk, .int .i64 0, .string dd, .int .i64 0, .string tt] 31)) := (Below.refl _ _).alloc (Nat.le_refl _) _
    have bX3 : Blk _ X 39 _ := (hal.block X bX.lt).trans bX
    have bR3 : Blk _ R 31 _ := (hal.block R bR.lt).trans bR
    have hER : w2.heap.size ≠ R := by have := bR.lt; omega
    have hEX : w2.heap.size ≠ X := by have := bX.lt; omega
    have hwE : w.heap.size ≤ w2.heap.size := hb.size
    generalize w2.alloc (.cells #[.int .i64 0, .int .i64 (1 + qb), .int .i64 0, .int .i64 kk, .int .i64 0, .string dd, .int .i64 0, .string tt] 31) = w3 at hE bE bX3 bR3 ⊢
    generalize w2.heap.size = E' at bE hER hEX hwE ⊢
    clear hal bX bR hb
    go_upto_region 6 with fail
    have bE4 : Blk (w3.setCell ⟨E', 2, none⟩ (.int .i64 (1 + qb + 1 + qg))).drew E' 31 #[.int .i64 0, .int .i64 (1 + qb), .int .i64 (1 + qb + 1 + qg), .int .i64 kk, .int .i64 0, .string dd, .int .i64 0, .string tt] := bE.set_ 2 _
    have bX4 : Blk (w3.setCell ⟨E', 2, none⟩ (.int .i64 (1 + qb + 1 + qg))).drew X 39 _ := bX3.far (p := ⟨E', 2, none⟩) (Ne.symm hEX) _
    have bR4 : Blk (w3.setCell ⟨E', 2, none⟩ (.int .i64 (1 + qb + 1 + qg))).drew R 31 _ := bR3.far (p := ⟨E', 2, none⟩) (Ne.symm hER) _
    have hE4 : Below w.heap.size w (w3.setCell ⟨E', 2, none⟩ (.int .i64 (1 + qb + 1 + qg))).drew := (hE.setCell (p := ⟨E', 2, none⟩) hwE _).drew
    have e1 := bE.cell 1
    have e2 := bE.cell 2
    have fe2 := bE.frozen 2
    have x3 := bX3.cell 3
    simp only [List.getElem?_toArray, List.getElem?_cons_zero, List.getElem?_cons_succ] at e1 e2 x3
    have hw1 : IntKind.i64.wrap (1 + qb + 1) = 1 + qb + 1 := IntWalk.i64_in _ (by omega)
    have hw2 : IntKind.i64.wrap (1 + qb + 1 + qg) = 1 + qb + 1 + qg := IntWalk.i64_in _ (by omega)
    go_region_held3 (fun W' => W'.cell? ⟨E', 1, none⟩ = some (.int .i64 (1 + qb)) ∧ W'.cell? ⟨X, 3, none⟩ = some (.int .i64 rg))
      (first | exact ⟨e1, x3⟩ | assumption | exact ⟨bE4.cell 1, bX4.cell 3⟩)
      ((go_at_call 12; refine (HG.out _).mono ?_; rintro e w' ⟨rfl, rfl⟩))
    clear hw1 hw2
    go_upto_region 7 with fail
    generalize (w3.setCell ⟨E', 2, none⟩ (.int .i64 (1 + qb + 1 + qg))).drew = w4 at bE4 bX4 bR4 hE4 ⊢
    clear bE bX3 bR3 hE e1 e2 fe2 x3
    have x4 := bX4.cell 4
    have e0 := bE4.cell 0; have e1 := bE4.cell 1; have e2 := bE4.cell 2; have e3 := bE4.cell 3; have e4 := bE4.cell 4; have e5 := bE4.cell 5; have e6 := bE4.cell 6; have e7 := bE4.cell 7
    have fe2 := bE4.frozen 2
    have fe4 := bE4.frozen 6
    simp only [List.getElem?_toArray, List.getElem?_cons_zero, List.getElem?_cons_succ] at x4 e0 e1 e2 e3 e4 e5 e6 e7
    go_wp2_with fail
    refine (HH.out _).mono ?_; rintro e w5 ⟨rfl, rfl⟩
    have r0 := bR4.cell 0; have r1 := bR4.cell 1; have r2 := bR4.cell 2; have r3 := bR4.cell 3; have r4 := bR4.cell 4; have r5 := bR4.cell 5; have r6 := bR4.cell 6; have r7 := bR4.cell 7
    have s0 := bR4.frozen 0; have s1 := bR4.frozen 1; have s2 := bR4.frozen 2; have s3 := bR4.frozen 3; have s4 := bR4.frozen 4; have s5 := bR4.frozen 5; have s6 := bR4.frozen 6; have s7 := bR4.frozen 7
    simp only [List.getElem?_toArray, List.getElem?_cons_zero, List.getElem?_cons_succ] at r0 r1 r2 r3 r4 r5 r6 r7
    have hcase : qh = 4 ∨ qh = 5 ∨ qh = 6 ∨ (qh ≠ 4 ∧ qh ≠ 5 ∧ qh ≠ 6) := by omega
    have HB4 := Lib.hid hE4
    clear bE4 bX4 bR4 hE4
    rcases hcase with rfl | rfl | rfl | ⟨h4, h5, h6⟩
    · go_wp2_with fail
      exact bodyPost_ret (v := .agg #[.int .i64 0, .int .i64 (1 + qb), .int .i64 (1 + qb + 1 + qg), .int .i64 kk, .int .i64 0, .string dd, .int .i64 171, .string tt]) (by simp [results, Try.results16, go_sem, r0, r1, r2, r3, r4, r5, r6, r7]) rfl
        ⟨by rw [HE.out, HKK.out, HDD.out, HTT.out]; by_cases h : qk = 0 <;> simp [h, errOf], ((((((((HB4.out.setCell (p := ⟨E', 6, none⟩) hwE _).setCell (p := ⟨R, 0, none⟩) hwR _).setCell (p := ⟨R, 1, none⟩) hwR _).setCell (p := ⟨R, 2, none⟩) hwR _).setCell (p := ⟨R, 3, none⟩) hwR _).setCell (p := ⟨R, 4, none⟩) hwR _).setCell (p := ⟨R, 5, none⟩) hwR _).setCell (p := ⟨R, 6, none⟩) hwR _).setCell (p := ⟨R, 7, none⟩) hwR _⟩
    · go_wp2_with fail
      exact bodyPost_ret (v := .agg #[.int .i64 0, .int .i64 (1 + qb), .int .i64 0, .int .i64 kk, .int .i64 0, .string dd, .int .i64 0, .string tt]) (by simp [results, Try.results16, go_sem, r0, r1, r2, r3, r4, r5, r6, r7]) rfl
        ⟨by rw [HE.out, HKK.out, HDD.out, HTT.out]; by_cases h : qk = 0 <;> simp [h, errOf], ((((((((HB4.out.setCell (p := ⟨E', 2, none⟩) hwE _).setCell (p := ⟨R, 0, none⟩) hwR _).setCell (p := ⟨R, 1, none⟩) hwR _).setCell (p := ⟨R, 2, none⟩) hwR _).setCell (p := ⟨R, 3, none⟩) hwR _).setCell (p := ⟨R, 4, none⟩) hwR _).setCell (p := ⟨R, 5, none⟩) hwR _).setCell (p := ⟨R, 6, none⟩) hwR _).setCell (p := ⟨R, 7, none⟩) hwR _⟩
    · go_wp2_with fail
      exact bodyPost_ret (v := .agg #[.int .i64 0, .int .i64 (1 + qb), .int .i64 (1 + qb + 1 + qg), .int .i64 kk, .int .i64 0, .string dd, .int .i64 170, .string tt]) (by simp [results, Try.results16, go_sem, r0, r1, r2, r3, r4, r5, r6, r7]) rfl
        ⟨by rw [HE.out, HKK.out, HDD.out, HTT.out]; by_cases h : qk = 0 <;> simp [h, errOf], ((((((((HB4.out.setCell (p := ⟨E', 6, none⟩) hwE _).setCell (p := ⟨R, 0, none⟩) hwR _).setCell (p := ⟨R, 1, none⟩) hwR _).setCell (p := ⟨R, 2, none⟩) hwR _).setCell (p := ⟨R, 3, none⟩) hwR _).setCell (p := ⟨R, 4, none⟩) hwR _).setCell (p := ⟨R, 5, none⟩) hwR _).setCell (p := ⟨R, 6, none⟩) hwR _).setCell (p := ⟨R, 7, none⟩) hwR _⟩
    · have e8 : (qh == 4) = false := by simpa using h4
      have e9 : (qh == 5) = false := by simpa using h5
      have e10 : (qh == 6) = false := by simpa using h6
      have HH4 := Lib.hid h4
      have HH5 := Lib.hid h5
      have HH6 := Lib.hid h6
      clear h4 h5 h6
      go_wp2_with fail
      exact bodyPost_ret (v := .agg #[.int .i64 0, .int .i64 (1 + qb), .int .i64 (1 + qb + 1 + qg), .int .i64 kk, .int .i64 0, .string dd, .int .i64 0, .string tt]) (by simp [results, Try.results16, go_sem, r0, r1, r2, r3, r4, r5, r6, r7]) rfl
        ⟨by rw [HE.out, HKK.out, HDD.out, HTT.out]; by_cases h : qk = 0 <;> simp [h, errOf, HH4.out, HH5.out, HH6.out], (((((((HB4.out.setCell (p := ⟨R, 0, none⟩) hwR _).setCell (p := ⟨R, 1, none⟩) hwR _).setCell (p := ⟨R, 2, none⟩) hwR _).setCell (p := ⟨R, 3, none⟩) hwR _).setCell (p := ⟨R, 4, none⟩) hwR _).setCell (p := ⟨R, 5, none⟩) hwR _).setCell (p := ⟨R, 6, none⟩) hwR _).setCell (p := ⟨R, 7, none⟩) hwR _⟩
end Go.Proofs.Ytojgibinokmmeaa
