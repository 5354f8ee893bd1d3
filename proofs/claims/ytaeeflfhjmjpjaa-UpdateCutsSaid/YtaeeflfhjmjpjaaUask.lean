/- Update.ask. -/
import Derived.Test.YtaeeflfhjmjpjaaUpd
import Derived.Test.YtaeeflfhjmjpjaaFour
import Derived.Deep.RegionHeld3
import Derived.Deep.MidRow
import Derived.BigRegion
import Derived.Lib.LazyBuf
namespace Go.Proofs.Ytaeeflfhjmjpjaa
open Go.RowKit SlRd
set_option linter.unusedVariables false

def askU (u : Up) (p : Pt) (st : Int) : Ak := if st = 0 then ⟨4, u.stripe, u.e, u.s, u.mask, 0, ⟨0, 0⟩, p.block⟩ else ⟨5, u.stripe, u.e, u.s, 0, 0, ⟨0, 0⟩, ⟨#[]⟩⟩

theorem size43 : (Try.prog.info? 43).map (·.size) = some 9 := by kernel_rfl
theorem ak_one' (q : Ak) : (q.cs.toArray).all (·.oneCell') = true := all_oneCell_toArray (fun v hv => by
  simp only [Ak.cs, List.mem_cons, List.not_mem_nil, or_false] at hv
  rcases hv with rfl | rfl | rfl | rfl | rfl | rfl | rfl | rfl | rfl <;> rfl)
theorem res48 {W : World} {tmps : Array Value} {R : Nat} {cs : List Value} (h6 : tmps.getD 6 undef = .pointer (some ⟨R, 0, none⟩)) (r6 : W.rangeAt R 0 cs) (l6 : cs.length = 9) :
    (results Try.f48 tmps).run Try.prog W = .ok (.agg cs.toArray) W := by
  have e6 := run_loadVar_mid (P := Try.prog) W R 0 43 cs _ r6 Try.underlying43 rfl (by rw [size43, l6])
  rw [Array.getD_eq_getD_getElem?] at h6
  simp [results, Try.results48, h6, e6, asAddr]
theorem store48 {W : World} {R : Nat} {cs : List Value} (b : Blk W R 43 cs.toArray) (hl : cs.length = 9) (q : Ak) : W.there R 0 9 ∧ (W.setCells R 0 q.cs).rangeAt R 0 q.cs := by
  have h : W.there R 0 9 := there_of (fun j => by rw [b.cell j]; simp) (fun j => b.frozen j) hl
  exact ⟨h, World.rangeAt_setCells_same W R 0 q.cs h⟩

set_option maxRecDepth 100000 in
set_option maxHeartbeats 1600000 in
theorem ask_any {W : World} {B : Nat} {v : Value} {u : Up} (hu : UO W B v u) (p : Pt) (st : Int) :
    Calls Try.prog 48 #[.pointer (some ⟨B, 0, none⟩), .agg #[.int .i64 p.col, .string p.block, .bool p.op, .bool p.dn], .int .i64 st] W fun e w' => e = .returned (askU u p st).v ∧ Below W.heap.size W w' := by
  obtain ⟨us, um, ue, us2, ups, ub, uf⟩ := u
  have hB := hu.h
  clear hu
  obtain ⟨pc, pb, po, pd⟩ := p
  simp only [Up.cells] at hB
  go_enter Try.func48, Try.ntmps48
  go_upto_region 1 with fail
  have hb1 : Below W.heap.size W ((W.alloc (.cells #[.int .i64 pc, .string pb, .bool po, .bool pd] 88)).alloc (.cells #[.int .i64 0, .int .i64 0, .int .i64 0, .int .i64 0, .int .i64 0, .int .i64 0, .int .i64 0, .int .i64 0, .string ⟨#[]⟩] 43)) := ((Below.refl _ _).alloc (Nat.le_refl _) _).alloc (by simp) _
  have bP : Blk ((W.alloc (.cells #[.int .i64 pc, .string pb, .bool po, .bool pd] 88)).alloc (.cells #[.int .i64 0, .int .i64 0, .int .i64 0, .int .i64 0, .int .i64 0, .int .i64 0, .int .i64 0, .int .i64 0, .string ⟨#[]⟩] 43)) W.heap.size 88 #[.int .i64 pc, .string pb, .bool po, .bool pd] := (Below.heap_alloc _ _ _ (by simp)).trans (Blk.new W 88 _)
  have bR : Blk ((W.alloc (.cells #[.int .i64 pc, .string pb, .bool po, .bool pd] 88)).alloc (.cells #[.int .i64 0, .int .i64 0, .int .i64 0, .int .i64 0, .int .i64 0, .int .i64 0, .int .i64 0, .int .i64 0, .string ⟨#[]⟩] 43)) (W.heap.size + 1) 43 #[.int .i64 0, .int .i64 0, .int .i64 0, .int .i64 0, .int .i64 0, .int .i64 0, .int .i64 0, .int .i64 0, .string ⟨#[]⟩] := by
    have := Blk.new (W.alloc (.cells #[.int .i64 pc, .string pb, .bool po, .bool pd] 88)) 43 #[.int .i64 0, .int .i64 0, .int .i64 0, .int .i64 0, .int .i64 0, .int .i64 0, .int .i64 0, .int .i64 0, .string ⟨#[]⟩]
    rw [show (W.alloc (.cells #[.int .i64 pc, .string pb, .bool po, .bool pd] 88)).heap.size = W.heap.size + 1 from by simp] at this
    exact this
  have bB : Blk ((W.alloc (.cells #[.int .i64 pc, .string pb, .bool po, .bool pd] 88)).alloc (.cells #[.int .i64 0, .int .i64 0, .int .i64 0, .int .i64 0, .int .i64 0, .int .i64 0, .int .i64 0, .int .i64 0, .string ⟨#[]⟩] 43)) B 86 #[.int .i64 us, .int .i64 um, .int .i64 ue, .int .i64 us2, v, .bool ub, .bool uf] := (hb1.block B hB.lt).trans hB
  have hXR : W.heap.size ≠ W.heap.size + 1 := by omega
  have hBX : B ≠ W.heap.size := Nat.ne_of_lt hB.lt
  have hBR : B ≠ W.heap.size + 1 := by have := hB.lt; omega
  have hwR : W.heap.size ≤ W.heap.size + 1 := by omega
  generalize ((W.alloc (.cells #[.int .i64 pc, .string pb, .bool po, .bool pd] 88)).alloc (.cells #[.int .i64 0, .int .i64 0, .int .i64 0, .int .i64 0, .int .i64 0, .int .i64 0, .int .i64 0, .int .i64 0, .string ⟨#[]⟩] 43)) = w1 at hb1 bP bR bB ⊢
  generalize W.heap.size + 1 = R at bR hXR hBR hwR ⊢
  generalize hX : W.heap.size = X at bP hXR hBX ⊢
  have HX := Lib.hid hX
  clear hX hB
  have FULL : Hid (∀ W', Blk W' B 86 #[.int .i64 us, .int .i64 um, .int .i64 ue, .int .i64 us2, v, .bool ub, .bool uf] → W'.cell? ⟨B, 0, none⟩ = some (.int .i64 us) ∧ W'.cell? ⟨B, 2, none⟩ = some (.int .i64 ue) ∧ W'.cell? ⟨B, 3, none⟩ = some (.int .i64 us2) ∧ Blk W' B 86 #[.int .i64 us, .int .i64 um, .int .i64 ue, .int .i64 us2, v, .bool ub, .bool uf]) := Lib.hid fun W' h => ⟨h.cell 0, h.cell 2, h.cell 3, h⟩
  have hd : Blk w1.drew B 86 #[.int .i64 us, .int .i64 um, .int .i64 ue, .int .i64 us2, v, .bool ub, .bool uf] := bB
  have hBN : B ≠ w1.heap.size := Nat.ne_of_lt bB.lt
  have hal : Below w1.heap.size w1 (w1.alloc (.cells #[.int .i64 5, .int .i64 us, .int .i64 ue, .int .i64 us2, .int .i64 0, .int .i64 0, .int .i64 0, .int .i64 0, .string ⟨#[]⟩] 43)) := (Below.refl _ _).alloc (Nat.le_refl _) _
  have bN := Blk.new w1 43 #[.int .i64 5, .int .i64 us, .int .i64 ue, .int .i64 us2, .int .i64 0, .int .i64 0, .int .i64 0, .int .i64 0, .string ⟨#[]⟩]
  have bP2 : Blk (w1.alloc (.cells #[.int .i64 5, .int .i64 us, .int .i64 ue, .int .i64 us2, .int .i64 0, .int .i64 0, .int .i64 0, .int .i64 0, .string ⟨#[]⟩] 43)) X 88 _ := (hal.block X bP.lt).trans bP
  have bR2 : Blk (w1.alloc (.cells #[.int .i64 5, .int .i64 us, .int .i64 ue, .int .i64 us2, .int .i64 0, .int .i64 0, .int .i64 0, .int .i64 0, .string ⟨#[]⟩] 43)) R 43 _ := (hal.block R bR.lt).trans bR
  have hRN : R ≠ w1.heap.size := Nat.ne_of_lt bR.lt
  have HB2 := Lib.hid (hb1.trans (hal.mono hb1.size))
  have HP := Lib.hid bP2
  have hXN1 : X ≠ w1.heap.size := Nat.ne_of_lt bP.lt
  have hwN1 : W.heap.size ≤ w1.heap.size := hb1.size
  have HR := Lib.hid bR2
  have HN := Lib.hid bN
  have HBB := Lib.hid (show Blk (w1.alloc (.cells #[.int .i64 5, .int .i64 us, .int .i64 ue, .int .i64 us2, .int .i64 0, .int .i64 0, .int .i64 0, .int .i64 0, .string ⟨#[]⟩] 43)) B 86 _ from (hal.block B bB.lt).trans bB)
  clear hal bN bP2 bR2 bP bR hb1 bB
  go_region_held3 (fun W' => W'.cell? ⟨B, 0, none⟩ = some (.int .i64 us) ∧ W'.cell? ⟨B, 2, none⟩ = some (.int .i64 ue) ∧ W'.cell? ⟨B, 3, none⟩ = some (.int .i64 us2) ∧ Blk W' B 86 #[.int .i64 us, .int .i64 um, .int .i64 ue, .int .i64 us2, v, .bool ub, .bool uf])
    (first
      | exact FULL.out _ hd
      | (go_split_ands; exact FULL.out _ ((Below.heap_alloc _ _ _ (Blk.lt (by assumption))).trans (by assumption)))
      | (go_split_ands; exact FULL.out _ (Blk.far (by assumption) hBN _)))
    (fail)
  all_goals
    go_split_ands
    go_upto_if 24 with fail
    have bN : Blk (w1.alloc (.cells #[.int .i64 5, .int .i64 us, .int .i64 ue, .int .i64 us2, .int .i64 0, .int .i64 0, .int .i64 0, .int .i64 0, .string ⟨#[]⟩] 43)).drew w1.heap.size 43 #[.int .i64 5, .int .i64 us, .int .i64 ue, .int .i64 us2, .int .i64 0, .int .i64 0, .int .i64 0, .int .i64 0, .string ⟨#[]⟩] := HN.out
    have bR : Blk (w1.alloc (.cells #[.int .i64 5, .int .i64 us, .int .i64 ue, .int .i64 us2, .int .i64 0, .int .i64 0, .int .i64 0, .int .i64 0, .string ⟨#[]⟩] 43)).drew R 43 #[.int .i64 0, .int .i64 0, .int .i64 0, .int .i64 0, .int .i64 0, .int .i64 0, .int .i64 0, .int .i64 0, .string ⟨#[]⟩] := HR.out
    have bP : Blk (w1.alloc (.cells #[.int .i64 5, .int .i64 us, .int .i64 ue, .int .i64 us2, .int .i64 0, .int .i64 0, .int .i64 0, .int .i64 0, .string ⟨#[]⟩] 43)).drew X 88 #[.int .i64 pc, .string pb, .bool po, .bool pd] := HP.out
    have bB : Blk (w1.alloc (.cells #[.int .i64 5, .int .i64 us, .int .i64 ue, .int .i64 us2, .int .i64 0, .int .i64 0, .int .i64 0, .int .i64 0, .string ⟨#[]⟩] 43)).drew B 86 #[.int .i64 us, .int .i64 um, .int .i64 ue, .int .i64 us2, v, .bool ub, .bool uf] := HBB.out
    have hb : Below W.heap.size W (w1.alloc (.cells #[.int .i64 5, .int .i64 us, .int .i64 ue, .int .i64 us2, .int .i64 0, .int .i64 0, .int .i64 0, .int .i64 0, .string ⟨#[]⟩] 43)).drew := HB2.out.drew
    have hwN := hwN1
    have hXN : X ≠ w1.heap.size := by have h1 := hXN1; exact h1
    generalize (w1.alloc (.cells #[.int .i64 5, .int .i64 us, .int .i64 ue, .int .i64 us2, .int .i64 0, .int .i64 0, .int .i64 0, .int .i64 0, .string ⟨#[]⟩] 43)).drew = w2 at bN bR bP bB hb ⊢
    generalize w1.heap.size = N at bN hBN hRN hXN hwN ⊢
    by_cases h0 : st = 0
    · subst h0
      have m1 := bB.cell 1
      have x1 := bP.cell 1
      have y0 := bN.cell 0; have y1 := bN.cell 1; have y2 := bN.cell 2; have y3 := bN.cell 3; have y4 := bN.cell 4; have y5 := bN.cell 5; have y6 := bN.cell 6; have y7 := bN.cell 7; have y8 := bN.cell 8
      simp only [List.getElem?_toArray, List.getElem?_cons_zero, List.getElem?_cons_succ] at m1 x1 y0 y1 y2 y3 y4 y5 y6 y7 y8
      have f0 := bN.frozen 0; have f4 := bN.frozen 4; have f8 := bN.frozen 8
      have BN := Lib.hid bN
      have BR := Lib.hid bR
      have HB3 := Lib.hid hb
      have hd1 := hd
      clear bB bP bN bR hb hd hd1
      go_wp2_with fail
      go_region
      go_upto_region 4 with fail
      have b4 : Blk (((w2.setCell ⟨N, 0, none⟩ (.int .i64 4)).setCell ⟨N, 4, none⟩ (.int .i64 um)).setCell ⟨N, 8, none⟩ (.string pb)).drew N 43 (⟨4, us, ue, us2, um, 0, ⟨0, 0⟩, pb⟩ : Ak).cs.toArray := ((BN.out.set_ 0 (.int .i64 4)).set_ 4 (.int .i64 um)).set_ 8 (.string pb)
      have r4 : Blk (((w2.setCell ⟨N, 0, none⟩ (.int .i64 4)).setCell ⟨N, 4, none⟩ (.int .i64 um)).setCell ⟨N, 8, none⟩ (.string pb)).drew R 43 [.int .i64 0, .int .i64 0, .int .i64 0, .int .i64 0, .int .i64 0, .int .i64 0, .int .i64 0, .int .i64 0, .string ⟨#[]⟩].toArray := ((BR.out.far (p := ⟨N, 0, none⟩) hRN _).far (p := ⟨N, 4, none⟩) hRN _).far (p := ⟨N, 8, none⟩) hRN _
      have hb4 : Below W.heap.size W (((w2.setCell ⟨N, 0, none⟩ (.int .i64 4)).setCell ⟨N, 4, none⟩ (.int .i64 um)).setCell ⟨N, 8, none⟩ (.string pb)).drew := (((HB3.out.setCell (p := ⟨N, 0, none⟩) hwN _).setCell (p := ⟨N, 4, none⟩) hwN _).setCell (p := ⟨N, 8, none⟩) hwN _).drew
      generalize (((w2.setCell ⟨N, 0, none⟩ (.int .i64 4)).setCell ⟨N, 4, none⟩ (.int .i64 um)).setCell ⟨N, 8, none⟩ (.string pb)).drew = w3 at b4 r4 hb4 ⊢
      clear BN BR HB3 m1 x1 y0 y1 y2 y3 y4 y5 y6 y7 y8 f0 f4 f8
      have y0 := b4.cell 0; have y1 := b4.cell 1; have y2 := b4.cell 2; have y3 := b4.cell 3; have y4 := b4.cell 4; have y5 := b4.cell 5; have y6 := b4.cell 6; have y7 := b4.cell 7; have y8 := b4.cell 8
      simp only [List.getElem?_toArray, List.getElem?_cons_zero, List.getElem?_cons_succ] at y0 y1 y2 y3 y4 y5 y6 y7 y8
      obtain ⟨g1, g3⟩ := store48 (cs := [.int .i64 0, .int .i64 0, .int .i64 0, .int .i64 0, .int .i64 0, .int .i64 0, .int .i64 0, .int .i64 0, .string ⟨#[]⟩]) r4 rfl ⟨4, us, ue, us2, um, 0, ⟨0, 0⟩, pb⟩
      have hf := below_setCells hwR (⟨4, us, ue, us2, um, 0, ⟨0, 0⟩, pb⟩ : Ak).cs 0 _ hb4
      have HA : Hid (askU ⟨us, um, ue, us2, ups, ub, uf⟩ ⟨pc, pb, po, pd⟩ 0 = ⟨4, us, ue, us2, um, 0, ⟨0, 0⟩, pb⟩) := Lib.hid (by unfold askU; rw [if_pos rfl])
      have HFF := Lib.hid hf
      clear b4 r4 hf hb4
      go_wp2_with (refine wpList_store_mid rfl 43 (.tmp 6) (.tmp 34) rfl R 0 (⟨4, us, ue, us2, um, 0, ⟨0, 0⟩, pb⟩ : Ak).cs.toArray rfl rfl ?_ ?_ (ak_one' ⟨4, us, ue, us2, um, 0, ⟨0, 0⟩, pb⟩) ?_; exact g1; exact size43)
      exact bodyPost_ret (res48 rfl g3 rfl) rfl ⟨by rw [HA.out], HFF.out⟩
    · have h1 : (st == 0) = false := by simpa using h0
      have y0 := bN.cell 0; have y1 := bN.cell 1; have y2 := bN.cell 2; have y3 := bN.cell 3; have y4 := bN.cell 4; have y5 := bN.cell 5; have y6 := bN.cell 6; have y7 := bN.cell 7; have y8 := bN.cell 8
      simp only [List.getElem?_toArray, List.getElem?_cons_zero, List.getElem?_cons_succ] at y0 y1 y2 y3 y4 y5 y6 y7 y8
      obtain ⟨g1, g3⟩ := store48 (cs := [.int .i64 0, .int .i64 0, .int .i64 0, .int .i64 0, .int .i64 0, .int .i64 0, .int .i64 0, .int .i64 0, .string ⟨#[]⟩]) bR rfl ⟨5, us, ue, us2, 0, 0, ⟨0, 0⟩, ⟨#[]⟩⟩
      have hf := below_setCells hwR (⟨5, us, ue, us2, 0, 0, ⟨0, 0⟩, ⟨#[]⟩⟩ : Ak).cs 0 _ hb
      have HA : Hid (askU ⟨us, um, ue, us2, ups, ub, uf⟩ ⟨pc, pb, po, pd⟩ st = ⟨5, us, ue, us2, 0, 0, ⟨0, 0⟩, ⟨#[]⟩⟩) := Lib.hid (by unfold askU; rw [if_neg h0])
      have HFF := Lib.hid hf
      clear hd bN bP bB bR hf hb
      go_wp2_with (refine wpList_store_mid rfl 43 (.tmp 6) (.tmp 34) rfl R 0 (⟨5, us, ue, us2, 0, 0, ⟨0, 0⟩, ⟨#[]⟩⟩ : Ak).cs.toArray rfl rfl ?_ ?_ (ak_one' ⟨5, us, ue, us2, 0, 0, ⟨0, 0⟩, ⟨#[]⟩⟩) ?_; exact g1; exact size43)
      exact bodyPost_ret (res48 rfl g3 rfl) rfl ⟨by rw [HA.out], HFF.out⟩
end Go.Proofs.Ytaeeflfhjmjpjaa
