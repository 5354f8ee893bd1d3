/- The walk of linear.Check. -/
import Derived.Test.YtojgibinokmmeaaGoes
namespace Go.Proofs.Ytojgibinokmmeaa
open Go.RowKit SlRd Lin
set_option linter.unusedVariables false

theorem info31 : (Try.prog.info? 31).map (fun i => (i.zero, i.size, i.bytes)) = some (some (.agg #[.int .i64 0, .int .i64 0, .int .i64 0, .int .i64 0, .int .i64 0, .string ByteArray.empty, .int .i64 0, .string ByteArray.empty]), 8, 80) := by kernel_rfl
theorem ev_one (x : Lin.Ev) : ∀ u ∈ Ecs x, u.oneCell' = true := by
  intro u hu
  simp only [Ecs, List.mem_cons, List.not_mem_nil, or_false] at hu
  rcases hu with rfl | rfl | rfl | rfl | rfl | rfl | rfl | rfl <;> rfl
theorem Fn12 : Fn 12 ≤ 100000000000000 := by decide

theorem or_pow2 (p j : Nat) (hp : p < 4096) (hj : j < 12) : bits .or .i64 (p : Int) (wrap64 (2 ^ j)) = ((p ||| 2 ^ j : Nat) : Int) := by
  have h2 : 2 ^ j < 2 ^ 12 := Nat.pow_lt_pow_right (by omega) hj
  have e : (2 : Int) ^ j = ((2 ^ j : Nat) : Int) := by push_cast; rfl
  rw [e]
  generalize 2 ^ j = q at h2 ⊢
  rw [IntWalk.wrap64_in _ ⟨by omega, by omega⟩]
  exact or_nat p q (by omega) (by omega)
theorem bits_nil : Bits [] 0 := ⟨fun j => by simp⟩
theorem bits_more {cs : List Lin.Ev} {S : Nat} (h : Bits cs S) (hS : S < 2 ^ cs.length) (x : Lin.Ev) (S' : Nat) (hS' : S' = if sure x = true then S ||| 2 ^ cs.length else S) : Bits (cs ++ [x]) S' ∧ S' < 2 ^ (cs ++ [x]).length := by
  have hl : S.testBit cs.length = false := Nat.testBit_lt_two_pow hS
  have hp : 2 ^ cs.length < 2 ^ (cs.length + 1) := Nat.pow_lt_pow_right (by omega) (by omega)
  have key : ∀ j, (cs ++ [x]).getD j default = if j < cs.length then cs.getD j default else if j = cs.length then x else default := fun j => by
    simp only [List.getD_eq_getElem?_getD]
    by_cases h1 : j < cs.length
    · rw [if_pos h1, List.getElem?_append_left h1]
    · rw [if_neg h1, List.getElem?_append_right (by omega)]
      by_cases h2 : j = cs.length
      · subst h2; simp
      · rw [if_neg h2, List.getElem?_eq_none (by simp; omega)]
        rfl
  subst hS'
  refine ⟨⟨fun j => ?_⟩, ?_⟩
  · rw [key j]
    by_cases h1 : j < cs.length
    · have h3 : ¬ cs.length = j := by omega
      have h4 : j < cs.length + 1 := by omega
      have e : (if sure x = true then S ||| 2 ^ cs.length else S).testBit j = S.testBit j := by
        split
        · rw [Nat.testBit_or, Nat.testBit_two_pow]
          simp [h3]
        · rfl
      rw [e, h.b j, if_pos h1]
      simp [h1, h4]
    · by_cases h2 : j = cs.length
      · subst h2
        rw [if_neg h1, if_pos rfl]
        split
        · rename_i hs
          rw [Nat.testBit_or, Nat.testBit_two_pow]
          simp [hs]
        · rename_i hs
          rw [hl]
          simp [hs]
      · have h3 : ¬ cs.length = j := by omega
        have e : (if sure x = true then S ||| 2 ^ cs.length else S).testBit j = S.testBit j := by
          split
          · rw [Nat.testBit_or, Nat.testBit_two_pow]
            simp [h3]
          · rfl
        rw [e, h.b j]
        have h5 : ¬ j < cs.length + 1 := by omega
        simp [h1, h5]
  · rw [List.length_append]
    show _ < 2 ^ (cs.length + 1)
    split
    · exact Nat.or_lt_two_pow (by omega) hp
    · omega

theorem filter_take (ls : List Lin.Ev) (k : Nat) (h : k < ls.length) : (ls.take (k + 1)).filter cnt = if cnt ls[k] = true then (ls.take k).filter cnt ++ [ls[k]] else (ls.take k).filter cnt := by
  rw [List.take_succ_eq_append_getElem h, List.filter_append]
  by_cases hp : cnt ls[k] = true <;> simp [hp]
theorem too_many (ls : List Lin.Ev) (first : ByteArray) (k : Nat) (h : k < ls.length) (hc : cnt ls[k] = true) (hl : ((ls.take k).filter cnt).length = 12) : chk first ls = false := by
  have h1 := filter_take ls k h
  rw [if_pos hc] at h1
  have h2 : ((ls.take (k + 1)).filter cnt).length ≤ (ls.filter cnt).length := ((List.take_sublist _ _).filter _).length_le
  rw [h1] at h2
  unfold chk
  rw [decide_eq_false (by simp at h2; omega)]
  rfl
theorem good_start (first : ByteArray) (cs : List Lin.Ev) : Lin.Good first cs 0 (-1) ↔ Plays first cs := by
  unfold Lin.Good bears
  rw [rest_zero, if_pos (by omega)]

/-- the loop's relation -/
def RelC (w : World) (B M : Nat) (first : ByteArray) (ls : List Lin.Ev) (i : Value) (wr : World) : Prop :=
  ∃ (k : Nat) (v : Value) (S : Nat), k ≤ ls.length ∧ i = .int .i64 k ∧ Blk wr B 49 #[.string first, v, .int .i64 S, .map (some M)] ∧ wr.ownsRow w.heap.size 31 8 v ((ls.take k).filter cnt).length (((ls.take k).filter cnt).flatMap Ecs) ∧
    ((ls.take k).filter cnt).length ≤ 12 ∧ Bits ((ls.take k).filter cnt) S ∧ S < 2 ^ ((ls.take k).filter cnt).length ∧ SeenIs wr M 0 [] ∧ Below w.heap.size w wr

theorem seen_grown {W W' : World} {M n : Nat} {T : List (Nat × Int)} {base size m : Nat} {e : TypeId} {v : Value} {xs : List Value} (h : SeenIs W M n T) (ho : W.ownsRow base e size v m xs) (hg : W.grownBy W' v.ownBlock) : SeenIs W' M n T := by
  obtain ⟨D, h1, h2⟩ := h
  refine ⟨D, h1.kept hg ?_, h2⟩
  obtain ⟨es, clock, hb, _⟩ := h1
  rcases ho.2 with ⟨rfl, _⟩ | ⟨g, cap, cur, rfl, _, hh, _⟩
  · simp [Value.ownBlock]
  · intro e
    simp only [Value.ownBlock, Option.some.injEq] at e
    rw [e, hh] at hb
    cases hb
theorem seen_set {W : World} {B M n : Nat} {T : List (Nat × Int)} (h : SeenIs W M n T) (hne : B ≠ M) (i : Nat) (u : Value) : SeenIs (W.setCell ⟨B, i, none⟩ u) M n T := by
  obtain ⟨D, h1, h2⟩ := h
  exact ⟨D, h1.kept (row := some B) ⟨rfl, rfl, rfl, by simp [World.setCell], fun j hj hn => Below.heap_setCell W _ u j (by simpa using hn)⟩ (by simpa using Ne.symm hne), h2⟩
/-- behind the store of what is sure -/
structure EndB (w : World) (B Y M : Nat) (first : ByteArray) (v : Value) (cs : List Lin.Ev) (S : Nat) (ys : Array Value) (wx : World) : Prop where
  b : Blk wx B 49 #[.string first, v, .int .i64 S, .map (some M)]
  y : Blk wx Y 31 ys
  o : wx.ownsRow w.heap.size 31 8 v cs.length (cs.flatMap Ecs)
  s : SeenIs wx M 0 []
  l : Below w.heap.size w wx
theorem EndB.of {w : World} {B Y M : Nat} {first : ByteArray} {v : Value} {cs : List Lin.Ev} {S0 : Nat} {ys : Array Value} {wx : World} (b : Blk wx B 49 #[.string first, v, .int .i64 S0, .map (some M)]) (y : Blk wx Y 31 ys)
    (o : wx.ownsRow w.heap.size 31 8 v cs.length (cs.flatMap Ecs)) (s : SeenIs wx M 0 []) (l : Below w.heap.size w wx) (hBM : B ≠ M) (hwB : w.heap.size ≤ B) (S : Nat) :
    EndB w B Y M first v cs S ys ((wx.setCell ⟨B, 2, none⟩ (.int .i64 (S : Int))).drew) := by
  have hYB : Y ≠ B := y.ne_ b (by decide)
  have hvB := own_blk_ne o b (by decide)
  have s' := seen_set s hBM 2 (.int .i64 (S : Int))
  refine ⟨b.set_ 2 _, y.far (p := ⟨B, 2, none⟩) hYB _, owns_setCell o _ _ (fun q hq e => hvB (by rw [hq, e])), s'.below (Below.refl _ _).drew, (l.setCell hwB _).drew⟩
theorem below_touch {w W W' : World} {M : Nat} (hb : Below w.heap.size w W) (ht : SlRd.Touch (fun i => i = M) W W') (hM : w.heap.size ≤ M) : Below w.heap.size w W' := ht.below hb (fun i hi => by rw [hi]; exact hM) (Nat.le_refl _)
set_option maxRecDepth 100000 in
set_option maxHeartbeats 1600000 in
theorem check_any {w : World} {ls : List Lin.Ev} {vl : Value} (first : ByteArray) (hr : Rd w 8 vl ls.length (ls.flatMap Ecs)) (hl : ls.length ≤ 140737488351232) :
    Calls Try.prog 14 #[.string first, vl] w fun e w' => e = .returned (.bool (chk first ls)) ∧ Below w.heap.size w w' := by
  obtain ⟨a, c, rfl⟩ : ∃ a c, vl = .slice a ls.length c := by obtain ⟨_, a, c, rfl, _⟩ := hr; exact ⟨_, _, rfl⟩
  obtain ⟨i0, hi0, hz0, hz1, hz2⟩ := info_parts info31
  have hmm := @run_makeMap Try.prog
  go_enter Try.func14, Try.ntmps14
  go_upto_region 2 with fail
  have hal : Below w.heap.size w ((w.alloc (.map #[] 0)).alloc (.cells #[.string first, .slice none 0 0, .int .i64 0, .map (some w.heap.size)] 49)) := ((Below.refl _ _).alloc (Nat.le_refl _) _).alloc (by simp) _
  have bB : Blk ((w.alloc (.map #[] 0)).alloc (.cells #[.string first, .slice none 0 0, .int .i64 0, .map (some w.heap.size)] 49)) (w.heap.size + 1) 49 #[.string first, .slice none 0 0, .int .i64 0, .map (some w.heap.size)] := by
    have := Blk.new (w.alloc (.map #[] 0)) 49 #[.string first, .slice none 0 0, .int .i64 0, .map (some w.heap.size)]
    simpa using this
  have seen := (SeenIs.made w).below ((Below.refl _ (w.alloc (.map #[] 0))).alloc (Nat.le_refl _) (.cells #[.string first, .slice none 0 0, .int .i64 0, .map (some w.heap.size)] 49))
  generalize (w.alloc (.map #[] 0)).alloc (.cells #[.string first, .slice none 0 0, .int .i64 0, .map (some w.heap.size)] 49) = w1 at hal bB seen ⊢
  have HBM : w.heap.size + 1 ≠ w.heap.size := by omega
  have HWB := Lib.hid (show w.heap.size ≤ w.heap.size + 1 by omega)
  generalize w.heap.size + 1 = B at bB HBM HWB ⊢
  generalize hM : w.heap.size = M at bB seen HBM ⊢
  have HM := Lib.hid hM
  clear hM hmm
  go_wp2_with fail
  go_loopw [13] (fun i wr => RelC w B M first ls i wr) (fun i _ => ls.length - (intOf i).toNat)
  case atStart => exact ⟨0, _, 0, Nat.zero_le _, rfl, bB, World.ownsRow_nil _ _ _ _, by simp, bits_nil, by simp, seen, hal⟩
  case round =>
    obtain ⟨k, v, S, hk, rfl, bB2, own2, hn12, hbits, hS2, seen2, hb2⟩ := hrel
    by_cases hlt : k < ls.length
    · obtain ⟨b, o, rfl, hb0, hc0⟩ := Rd.atk Ecs (fun _ => rfl) (hr.below hb2) rfl k hlt
      have HFT := Lib.hid (filter_take ls k hlt)
      have HTM := Lib.hid (too_many ls first k hlt)
      generalize ls[k] = x at hc0 HFT HTM
      have HCN := Lib.hid (fun W => counts_any x W)
      have HSU := Lib.hid (fun W => sure_any x W)
      have HBM2 := Lib.hid (bits_more hbits hS2 x)
      obtain ⟨xp, xb, xe, ⟨xk, xa, xd⟩, xr, xt⟩ := x
      have p0 := hc0 0 (by omega); have p1 := hc0 1 (by omega); have p2 := hc0 2 (by omega); have p3 := hc0 3 (by omega); have p4 := hc0 4 (by omega)
      have p5 := hc0 5 (by omega); have p6 := hc0 6 (by omega); have p7 := hc0 7 (by omega)
      simp only [Ecs, List.getElem?_cons_zero, List.getElem?_cons_succ, Nat.add_zero] at p0 p1 p2 p3 p4 p5 p6 p7
      generalize (ls.take k).filter cnt = cs at own2 hn12 hbits hS2 HFT HTM HBM2
      generalize hcn : cnt ⟨xp, xb, xe, ⟨xk, xa, xd⟩, xr, xt⟩ = q at HFT HTM HCN
      obtain ⟨av, cv, rfl⟩ : ∃ a c, v = .slice a cs.length c := by obtain ⟨_, a, c, hv, _⟩ := Rd.of_owns own2; exact ⟨a, c, hv⟩
      clear hc0 hcn hr
      go_upto_region 5 with fail
      have hal7 : Below wr.heap.size wr (wr.alloc (.cells #[.int .i64 xp, .int .i64 xb, .int .i64 xe, .int .i64 xk, .int .i64 xa, .string xd, .int .i64 xr, .string xt] 31)) := (Below.refl _ _).alloc (Nat.le_refl _) _
      have bY : Blk (wr.alloc (.cells #[.int .i64 xp, .int .i64 xb, .int .i64 xe, .int .i64 xk, .int .i64 xa, .string xd, .int .i64 xr, .string xt] 31)) wr.heap.size 31 #[.int .i64 xp, .int .i64 xb, .int .i64 xe, .int .i64 xk, .int .i64 xa, .string xd, .int .i64 xr, .string xt] := Blk.new _ _ _
      have bB7 : Blk (wr.alloc (.cells #[.int .i64 xp, .int .i64 xb, .int .i64 xe, .int .i64 xk, .int .i64 xa, .string xd, .int .i64 xr, .string xt] 31)) B 49 _ := (hal7.block B bB2.lt).trans bB2
      have own7 := owns_below own2 hal7
      have seen7 := seen2.below hal7
      have hb7 := below_then hb2 hal7
      generalize wr.alloc (.cells #[.int .i64 xp, .int .i64 xb, .int .i64 xe, .int .i64 xk, .int .i64 xa, .string xd, .int .i64 xr, .string xt] 31) = w7 at bY bB7 own7 seen7 hb7 ⊢
      generalize wr.heap.size = Y at bY ⊢
      clear bB2 own2 seen2 hb2 hal7 p0 p1 p2 p3 p4 p5 p6 p7 hb0
      have y0 := bY.cell 0; have y1 := bY.cell 1; have y2 := bY.cell 2; have y3 := bY.cell 3; have y4 := bY.cell 4; have y5 := bY.cell 5; have y6 := bY.cell 6; have y7 := bY.cell 7
      simp only [List.getElem?_toArray, List.getElem?_cons_zero, List.getElem?_cons_succ] at y0 y1 y2 y3 y4 y5 y6 y7
      go_wp2_with fail
      refine (HCN.out _).mono ?_; rintro e w8 ⟨rfl, hb8⟩
      have bY8 : Blk w8 Y 31 _ := (hb8.block Y bY.lt).trans bY
      have bB8 : Blk w8 B 49 _ := (hb8.block B bB7.lt).trans bB7
      have own8 := owns_below own7 hb8
      have seen8 := seen7.below hb8
      have hb78 := below_then hb7 hb8
      clear bY bB7 own7 seen7 hb7 hb8 y0 y1 y2 y3 y4 y5 y6 y7
      cases q
      · simp only [Bool.false_eq_true, if_false] at HFT
        have HBB := Lib.hid bB8
        clear bB8
        go_wp2_with fail
        go_roundw
        case rel => exact ⟨k + 1, _, S, by omega, by go_num, HBB.out, by rw [HFT.out]; exact own8, by rw [HFT.out]; exact hn12, by rw [HFT.out]; exact hbits, by rw [HFT.out]; exact hS2, seen8, hb78⟩
        case measure => simp [intOf]; omega
      · simp only [if_true] at HFT
        have b1 := bB8.cell 1
        simp only [List.getElem?_toArray, List.getElem?_cons_zero, List.getElem?_cons_succ] at b1
        by_cases h12 : cs.length = 12
        · have HF := Lib.hid (HTM.out rfl h12)
          have e1 : ((cs.length : Int) == 12) = true := by rw [h12]; rfl
          clear h12
          go_wp2_with fail
          go_ret
          exact ⟨by rw [HF.out]; rfl, hb78⟩
        · have e1 : ((cs.length : Int) == 12) = false := by rw [beq_eq_false_iff_ne]; omega
          have y0 := bY8.cell 0; have y1 := bY8.cell 1; have y2 := bY8.cell 2; have y3 := bY8.cell 3; have y4 := bY8.cell 4; have y5 := bY8.cell 5; have y6 := bY8.cell 6; have y7 := bY8.cell 7
          simp only [List.getElem?_toArray, List.getElem?_cons_zero, List.getElem?_cons_succ] at y0 y1 y2 y3 y4 y5 y6 y7
          generalize hsu : sure ⟨xp, xb, xe, ⟨xk, xa, xd⟩, xr, xt⟩ = s at HSU HBM2
          go_wp2_with fail
          refine (HSU.out _).mono ?_; rintro e w9 ⟨rfl, hb9'⟩
          have bY9 : Blk w9 Y 31 _ := (hb9'.block Y bY8.lt).trans bY8
          have bB9 : Blk w9 B 49 _ := (hb9'.block B bB8.lt).trans bB8
          have own9 := owns_below own8 hb9'
          have seen9 := seen8.below hb9'
          have hb9 := below_then hb78 hb9'
          have hS4 : S < 4096 := Nat.lt_of_lt_of_le hS2 (Nat.pow_le_pow_right (by omega) (by omega : cs.length ≤ 12))
          have HCT := HFT
          clear bY8 bB8 own8 seen8 hb78 hb9' y0 y1 y2 y3 y4 y5 y6 y7 b1 hsu HFT HTM
          cases s
          · have HBITS := Lib.hid (HBM2.out S (by simp))
            go_upto_region 10 with fail
            have b1 := bB9.cell 1
            have y0 := bY9.cell 0; have y1 := bY9.cell 1; have y2 := bY9.cell 2; have y3 := bY9.cell 3; have y4 := bY9.cell 4; have y5 := bY9.cell 5; have y6 := bY9.cell 6; have y7 := bY9.cell 7
            simp only [List.getElem?_toArray, List.getElem?_cons_zero, List.getElem?_cons_succ] at b1 y0 y1 y2 y3 y4 y5 y6 y7
            go_wp2_with (at_builtin; refine wpList_append_own _ rfl _ _ 25 rfl w.heap.size 31 i0 _ 8 80 Try.underlying25 hi0 hz0 hz1 hz2 rfl (by decide) _ _ _ rfl (own9.alloc _) ⟨w9.heap.size, 0, none⟩ 1 1 (Ecs ⟨xp, xb, xe, ⟨xk, xa, xd⟩, xr, xt⟩) rfl rfl ?c1A ?c2A ?c3A ?c4A ?c5A ?_)
            case c1A =>
              intro j u hj
              rw [Go.WideShapes.add_plain, Nat.zero_add, World.cell?_alloc_at _ _ _ _ rfl]
              simpa using hj
            case c2A => exact ev_one _
            case c3A => unfold maxLen; omega
            case c4A => omega
            case c5A => have := hb9.size; simp; omega
            · intro v' w10 hown' hgrow _
              obtain ⟨a2, c2, rfl⟩ : ∃ a c, v' = .slice a (cs.length + 1) c := by obtain ⟨_, a, c, hv, _⟩ := Rd.of_owns hown'; exact ⟨a, c, hv⟩
              have hB10 : Blk w10 B 49 _ := (hgrow.block B (Nat.lt_of_lt_of_le bB9.lt (by simp)) (Ne.symm (own_blk_ne own9 bB9 (by decide)))).trans ((Below.heap_alloc _ _ B bB9.lt).trans bB9)
              have cB1 := hB10.cell 1
              have fB1 := hB10.frozen 1
              simp only [List.getElem?_toArray, List.getElem?_cons_zero, List.getElem?_cons_succ] at cB1
              have HSN := Lib.hid (seen_grown (seen9.below ((Below.refl _ w9).alloc (Nat.le_refl _) (.cells #[.int .i64 xp, .int .i64 xb, .int .i64 xe, .int .i64 xk, .int .i64 xa, .string xd, .int .i64 xr, .string xt] 31))) (own9.alloc _) hgrow)
              have HB := Lib.hid ((below_al hb9 (.cells #[.int .i64 xp, .int .i64 xb, .int .i64 xe, .int .i64 xk, .int .i64 xa, .string xd, .int .i64 xr, .string xt] 31)).grown hgrow (by have := hb9.size; simp; omega) (fun q hq => (owns_lt own9 q hq).1))
              have HOWN := Lib.hid hown'
              have HBB := Lib.hid hB10
              have HNE := Lib.hid (own_blk_ne hown' hB10 (by decide))
              clear hgrow hown' hB10 own9 hb9 bB9 bY9 seen9
              go_wp2_with fail
              go_roundw
              case rel =>
                refine ⟨k + 1, _, S, by omega, by go_num, HBB.out.set_ 1 _, ?_, ?_, ?_, ?_, ?_, ?_⟩
                · rw [HCT.out, List.length_append, List.flatMap_append, List.flatMap_singleton]
                  exact owns_setCell HOWN.out _ _ (fun q hq e => HNE.out (by rw [hq, e]))
                · rw [HCT.out, List.length_append]; simp; omega
                · rw [HCT.out]; exact HBITS.out.1
                · rw [HCT.out]; exact HBITS.out.2
                · exact seen_set HSN.out HBM _ _
                · exact HB.out.setCell HWB.out _
              case measure => simp [intOf]; omega
          · have HBITS := Lib.hid (HBM2.out (S ||| 2 ^ cs.length) (by simp))
            have hor : bits .or .i64 (S : Int) (wrap64 (2 ^ cs.length)) = ((S ||| 2 ^ cs.length : Nat) : Int) := or_pow2 S cs.length hS4 (by omega)
            have b1 := bB9.cell 1
            have b2 := bB9.cell 2
            have fb2 := bB9.frozen 2
            simp only [List.getElem?_toArray, List.getElem?_cons_zero, List.getElem?_cons_succ] at b1 b2
            go_upto_region 9 with fail
            go_cut [] from 26 to 32 (fun wx => EndB w B Y M first (.slice av cs.length cv) cs (S ||| 2 ^ cs.length) #[.int .i64 xp, .int .i64 xb, .int .i64 xe, .int .i64 xk, .int .i64 xa, .string xd, .int .i64 xr, .string xt] wx)
            case first =>
              have HE := Lib.hid (EndB.of bB9 bY9 own9 seen9 hb9 HBM (HWB.out) (S ||| 2 ^ cs.length))
              clear bB9 bY9 own9 seen9 hb9
              go_region
              all_goals
                go_wp2_with fail
                go_meet
                exact HE.out
            case rest =>
              obtain ⟨bBc, bYc, ownc, seenc, hbc⟩ := hcut
              clear bB9 bY9 own9 seen9 hb9 b1 b2 fb2 hor
              obtain ⟨w11, hw11⟩ : ∃ w11, w11 = wc := ⟨_, rfl⟩
              rw [← hw11] at bBc bYc ownc seenc hbc ⊢
              clear hw11
              go_upto_region 10 with fail
              have b1 := bBc.cell 1
              have y0 := bYc.cell 0; have y1 := bYc.cell 1; have y2 := bYc.cell 2; have y3 := bYc.cell 3; have y4 := bYc.cell 4; have y5 := bYc.cell 5; have y6 := bYc.cell 6; have y7 := bYc.cell 7
              simp only [List.getElem?_toArray, List.getElem?_cons_zero, List.getElem?_cons_succ] at b1 y0 y1 y2 y3 y4 y5 y6 y7
              go_wp2_with (at_builtin; refine wpList_append_own _ rfl _ _ 25 rfl w.heap.size 31 i0 _ 8 80 Try.underlying25 hi0 hz0 hz1 hz2 rfl (by decide) _ _ _ rfl (ownc.alloc _) ⟨w11.heap.size, 0, none⟩ 1 1 (Ecs ⟨xp, xb, xe, ⟨xk, xa, xd⟩, xr, xt⟩) rfl rfl ?c1B ?c2B ?c3B ?c4B ?c5B ?_)
              case c1B =>
                intro j u hj
                rw [Go.WideShapes.add_plain, Nat.zero_add, World.cell?_alloc_at _ _ _ _ rfl]
                simpa using hj
              case c2B => exact ev_one _
              case c3B => unfold maxLen; omega
              case c4B => omega
              case c5B => have := hbc.size; simp; omega
              · intro v' w10 hown' hgrow _
                obtain ⟨a2, c2, rfl⟩ : ∃ a c, v' = .slice a (cs.length + 1) c := by obtain ⟨_, a, c, hv, _⟩ := Rd.of_owns hown'; exact ⟨a, c, hv⟩
                have hB10 : Blk w10 B 49 _ := (hgrow.block B (Nat.lt_of_lt_of_le bBc.lt (by simp)) (Ne.symm (own_blk_ne ownc bBc (by decide)))).trans ((Below.heap_alloc _ _ B bBc.lt).trans bBc)
                have cB1 := hB10.cell 1
                have fB1 := hB10.frozen 1
                simp only [List.getElem?_toArray, List.getElem?_cons_zero, List.getElem?_cons_succ] at cB1
                have HSN := Lib.hid (seen_grown (seenc.below ((Below.refl _ w11).alloc (Nat.le_refl _) (.cells #[.int .i64 xp, .int .i64 xb, .int .i64 xe, .int .i64 xk, .int .i64 xa, .string xd, .int .i64 xr, .string xt] 31))) (ownc.alloc _) hgrow)
                have HB := Lib.hid ((below_al hbc (.cells #[.int .i64 xp, .int .i64 xb, .int .i64 xe, .int .i64 xk, .int .i64 xa, .string xd, .int .i64 xr, .string xt] 31)).grown hgrow (by have := hbc.size; simp; omega) (fun q hq => (owns_lt ownc q hq).1))
                have HOWN := Lib.hid hown'
                have HBB := Lib.hid hB10
                have HNE := Lib.hid (own_blk_ne hown' hB10 (by decide))
                clear hgrow hown' hB10 ownc hbc bBc bYc seenc
                go_wp2_with fail
                go_roundw
                case rel =>
                  refine ⟨k + 1, _, S ||| 2 ^ cs.length, by omega, by go_num, HBB.out.set_ 1 _, ?_, ?_, ?_, ?_, ?_, ?_⟩
                  · rw [HCT.out, List.length_append, List.flatMap_append, List.flatMap_singleton]
                    exact owns_setCell HOWN.out _ _ (fun q hq e => HNE.out (by rw [hq, e]))
                  · rw [HCT.out, List.length_append]; simp; omega
                  · rw [HCT.out]; exact HBITS.out.1
                  · rw [HCT.out]; exact HBITS.out.2
                  · exact seen_set HSN.out HBM _ _
                  · exact HB.out.setCell HWB.out _
                case measure => simp [intOf]; omega
    · obtain rfl : k = ls.length := by omega
      rw [List.take_length] at own2 hn12 hbits hS2
      have hsr : Sr wr B M first v (ls.filter cnt) S := ⟨bB2, Rd.of_owns own2⟩
      have hS4 : S < 4096 := Nat.lt_of_lt_of_le hS2 (Nat.pow_le_pow_right (by omega) hn12)
      have hgo := Lib.hid (goes_all hn12 hbits hS4 12 wr 0 (-1) [] 0 (by rw [rest_zero]; exact hn12) (by omega) hsr seen2 (by omega) (by omega) (by omega) (by intro s hs; cases hs) (by have := Fn12; omega))
      have HN12 := Lib.hid hn12
      clear hsr own2 hbits hS2 hS4 bB2 hn12
      go_wp2_with fail
      refine hgo.out.mono ?_; rintro e w' ⟨bb, rfl, tB, hgt, hgf⟩
      have HB := Lib.hid (below_touch hb2 tB (by have := HM.out; omega))
      have HR := Lib.hid (show chk first ls = bb from by
        cases bb
        · obtain ⟨hng, _⟩ := hgf rfl
          cases hc : chk first ls
          · rfl
          · exact absurd ((good_start first _).2 ((chk_iff first ls).1 hc).2) hng
        · exact (chk_iff first ls).2 ⟨HN12.out, (good_start first _).1 (hgt rfl)⟩)
      clear hgo tB hgt hgf
      go_wp2_with fail
      go_ret
      exact ⟨by rw [HR.out]; rfl, HB.out⟩
end Go.Proofs.Ytojgibinokmmeaa
