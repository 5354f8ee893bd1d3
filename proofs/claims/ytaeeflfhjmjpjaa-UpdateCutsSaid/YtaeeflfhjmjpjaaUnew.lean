/- update.New. -/
import Derived.Test.YtaeeflfhjmjpjaaUright
import Derived.Deep.RegionLaw
import Derived.Deep.AppendLies
import Derived.Deep.DrawnRows
namespace Go.Proofs.Ytaeeflfhjmjpjaa
open Go.RowKit SlRd
set_option linter.unusedVariables false
attribute [local go_sem ↓] Go.wp_at_zero Go.wp_at_succ

theorem info88 : (Try.prog.info? 88).map (fun i => (i.zero, i.size, i.bytes)) = some (some (.agg #[.int .i64 0, .string ⟨#[]⟩, .bool false, .bool false]), 4, 32) := by kernel_rfl
theorem ap84 : Ap Try.prog 84 88 4 32 := Ap.of Try.underlying84 info88 rfl (by decide)
def maskOf (cols : List Int) : Nat := cols.foldl (fun m c => m ||| 2 ^ c.toNat) 0
theorem maskOf_lt (cols : List Int) (h : ∀ c ∈ cols, 0 ≤ c ∧ c < 6) : maskOf cols < 64 := by
  have : ∀ (l : List Int) (m : Nat), m < 64 → (∀ c ∈ l, 0 ≤ c ∧ c < 6) → l.foldl (fun m c => m ||| 2 ^ c.toNat) m < 64 := by
    intro l
    induction l with
    | nil => intro m hm _; exact hm
    | cons a l ih =>
      intro m hm hb
      refine ih _ ?_ (fun c hc => hb c (List.mem_cons_of_mem _ hc))
      have ha := hb a (by simp)
      exact Nat.or_lt_two_pow (n := 6) hm (Nat.pow_lt_pow_right (by omega) (by omega))
  exact this cols 0 (by omega) h
def partsOf (cols : List Int) (bl : List ByteArray) : List Pt := (cols.zip bl).map fun q => ⟨q.1, q.2, false, false⟩
def newU (stripe e s : Int) (cols : List Int) (bl : List ByteArray) : Up := ⟨stripe, maskOf cols, e, s, partsOf cols bl, false, false⟩
theorem pt_cells (q : Pt) : ∀ u ∈ q.cs, u.oneCell' = true := by
  intro v hv
  simp only [Pt.cs, List.mem_cons, List.not_mem_nil, or_false] at hv
  rcases hv with rfl | rfl | rfl | rfl <;> rfl

theorem ofInt_i64 (a : Nat) (ha : a < 9223372036854775808) : (BitVec.ofInt 64 (a : Int)).toNat = a := by
  rw [BitVec.ofInt_natCast, BitVec.toNat_ofNat]; exact Nat.mod_eq_of_lt (by omega)
theorem or_nat (a b : Nat) (ha : a < 9223372036854775808) (hb : b < 9223372036854775808) : bits .or .i64 (a : Int) (b : Int) = ((a ||| b : Nat) : Int) := by
  have hx : a ||| b < 2 ^ 63 := Nat.or_lt_two_pow (by omega) (by omega)
  show IntKind.i64.wrap ((BitVec.ofInt 64 (a : Int) ||| BitVec.ofInt 64 (b : Int)).toNat : Int) = _
  rw [BitVec.toNat_or, ofInt_i64 a ha, ofInt_i64 b hb, IntKind.wrap_i64]
  omega
theorem or_pow2 (p j : Nat) (hp : p < 4096) (hj : j < 12) : bits .or .i64 (p : Int) (wrap64 (2 ^ j)) = ((p ||| 2 ^ j : Nat) : Int) := by
  have h2 : 2 ^ j < 2 ^ 12 := Nat.pow_lt_pow_right (by omega) hj
  have e : (2 : Int) ^ j = ((2 ^ j : Nat) : Int) := by push_cast; rfl
  rw [e]
  generalize 2 ^ j = q at h2 ⊢
  rw [IntWalk.wrap64_in _ ⟨by omega, by omega⟩]
  exact or_nat p q (by omega) (by omega)
theorem maskOf_succ (cols : List Int) (k : Nat) (h : k < cols.length) : maskOf (cols.take (k + 1)) = maskOf (cols.take k) ||| 2 ^ (cols[k]).toNat := by
  unfold maskOf
  rw [List.take_succ_eq_append_getElem h, List.foldl_append]
  rfl
theorem partsOf_succ (cols : List Int) (bl : List ByteArray) (k : Nat) (h : k < cols.length) (h2 : k < bl.length) : partsOf (cols.take (k + 1)) (bl.take (k + 1)) = partsOf (cols.take k) (bl.take k) ++ [⟨cols[k], bl[k], false, false⟩] := by
  unfold partsOf
  rw [List.take_succ_eq_append_getElem h, List.take_succ_eq_append_getElem h2, List.zip_append (by simp; omega), List.map_append]
  rfl

set_option maxRecDepth 100000 in
set_option maxHeartbeats 3200000 in
theorem new_ok {stripe e s : Int} {cols : List Int} {bl : List ByteArray} (h : Fits stripe e s cols bl) (vc vb : Value) (w : World) (hc : Rd w 1 vc cols.length (cols.map (Value.int .i64))) (hb : Rd w 1 vb bl.length (bl.map Value.string)) :
    Calls Try.prog 29 #[.int .i64 stripe, .agg #[.int .i64 e, .int .i64 s], vc, vb] w fun r w' => ∃ B v, r = .returned (.tuple #[.pointer (some ⟨B, 0, none⟩), .int .i64 0]) ∧ UO w' B v (newU stripe e s cols bl) ∧ Below w.heap.size w w' ∧ w.heap.size ≤ B ∧ (∀ i, v.ownBlock = some i → w.heap.size ≤ i) := by
  have hlen := h.len
  have HRT := Lib.hid (fun W h1 h2 => right_ok h vc vb W h1 h2)
  obtain ⟨ac, cc, rfl⟩ : ∃ a c, vc = .slice a cols.length c := by obtain ⟨_, a, c, rfl, _⟩ := hc; exact ⟨_, _, rfl⟩
  obtain ⟨ab, cb, rfl⟩ : ∃ a c, vb = .slice a bl.length c := by obtain ⟨_, a, c, rfl, _⟩ := hb; exact ⟨_, _, rfl⟩
  have HBD := Lib.hid h.bd
  have HNL := Lib.hid h.n
  rw [h.n] at hb ⊢
  rw [h.n] at HRT
  clear h
  have HC := Lib.hid hc
  have HB := Lib.hid hb
  go_enter Try.func29, Try.ntmps29
  go_wp2_with fail
  have hal : Below w.heap.size w (w.alloc (.cells #[.int .i64 e, .int .i64 s] 34)) := (Below.refl _ _).alloc (Nat.le_refl _) _
  have hc2 := hc.below hal
  have hb2 := hb.below hal
  have bT := Blk.new w 34 #[.int .i64 e, .int .i64 s]
  generalize w.alloc (.cells #[.int .i64 e, .int .i64 s] 34) = w1 at hal hc2 hb2 bT ⊢
  generalize hT : w.heap.size = T at bT ⊢
  have HT := Lib.hid hT
  clear hc hb hT
  refine (HRT.out _ hc2 hb2).mono ?_; rintro r w2 ⟨rfl, hb12⟩
  have hc3 := hc2.below hb12
  have hb3 := hb2.below hb12
  have bT2 : Blk w2 T 34 _ := (hb12.block T bT.lt).trans bT
  have hbb := below_then hal hb12
  have t0 := bT2.cell 0; have t1 := bT2.cell 1
  simp only [List.getElem?_toArray, List.getElem?_cons_zero, List.getElem?_cons_succ] at t0 t1
  clear hal hc2 hb2 bT hb12 HRT
  go_upto_region 4 with fail
  have bU := Blk.new w2 86 #[.int .i64 stripe, .int .i64 0, .int .i64 e, .int .i64 s, .slice none 0 0, .bool false, .bool false]
  have hbw := below_al hbb (.cells #[.int .i64 stripe, .int .i64 0, .int .i64 e, .int .i64 s, .slice none 0 0, .bool false, .bool false] 86)
  have hUw : w.heap.size ≤ w2.heap.size := hbb.size
  generalize w2.alloc (.cells #[.int .i64 stripe, .int .i64 0, .int .i64 e, .int .i64 s, .slice none 0 0, .bool false, .bool false] 86) = w3 at bU hbw ⊢
  generalize w2.heap.size = U at bU hUw ⊢
  clear hc3 hb3 bT2 hbb t0 t1
  have HUw := Lib.hid hUw
  go_wp2_with fail
  go_loopw [25] (fun i wr => ∃ k : Nat, k ≤ cols.length ∧ i = .int .i64 k ∧ (∃ v, Hid (Blk wr U 86 #[.int .i64 stripe, .int .i64 (maskOf (cols.take k) : Nat), .int .i64 e, .int .i64 s, v, .bool false, .bool false]) ∧ Hid (wr.ownsRow w.heap.size 88 4 v k ((partsOf (cols.take k) (bl.take k)).flatMap Pt.cs))) ∧ Below w.heap.size w wr) (fun i _ => cols.length - (intOf i).toNat)
  case atStart => exact ⟨0, Nat.zero_le _, rfl, ⟨_, Lib.hid bU, Lib.hid (World.ownsRow_nil _ _ _ _)⟩, hbw⟩
  case round =>
    clear bU hbw
    obtain ⟨k, hk, rfl, ⟨v, HBU, HOW⟩, hb⟩ := hrel
    by_cases hlt : k < cols.length
    · have hlt2 : k < bl.length := by have := HNL.out; omega
      obtain ⟨b1, o1, rfl, hb1, hx1⟩ := (HC.out.below hb).at1 k hlt
      obtain ⟨b3, o3, rfl, hb3, hx3⟩ := (HB.out.below hb).at1 k hlt
      rw [List.getElem?_map, List.getElem?_eq_getElem hlt] at hx1
      rw [List.getElem?_map, List.getElem?_eq_getElem hlt2] at hx3
      simp only [Option.map_some] at hx1 hx3
      have hcb := HBD.out _ (List.getElem_mem hlt)
      have HM := Lib.hid (maskOf_succ cols k hlt)
      have HPS := Lib.hid (partsOf_succ cols bl k hlt hlt2)
      have hm64 := maskOf_lt (cols.take k) (fun c hc => HBD.out c (List.mem_of_mem_take hc))
      obtain ⟨x, hx⟩ : ∃ n : Nat, cols[k] = n := ⟨(cols[k]).toNat, by omega⟩
      rw [hx] at hx1 hcb HM HPS
      rw [Int.toNat_natCast] at HM
      generalize bl[k] = y at hx3 HPS
      generalize maskOf (cols.take k) = m at HBU HM hm64
      generalize partsOf (cols.take k) (bl.take k) = ps at HOW HPS
      have hor := or_pow2 m x (by omega) (by omega)
      have i1 : (0 : Int) ≤ (k : Int) := by omega
      have i2 : (k : Int) < (cols.length : Int) := by omega
      have i3 : (0 : Int) ≤ (x : Int) := by omega
      have y1 := HBU.out.cell 1
      have f1 := HBU.out.frozen 1
      simp only [List.getElem?_toArray, List.getElem?_cons_zero, List.getElem?_cons_succ] at y1
      clear hx
      go_upto_region 7 with fail
      go_region
      go_upto_region 8 with fail
      have bU5 : Blk (wr.setCell ⟨U, 1, none⟩ (.int .i64 ((m ||| 2 ^ x : Nat) : Int))).drew U 86 #[.int .i64 stripe, .int .i64 ((m ||| 2 ^ x : Nat) : Int), .int .i64 e, .int .i64 s, v, .bool false, .bool false] := HBU.out.set_ 1 _
      have hvU : ∀ q, v.ownBlock = some q → q ≠ U := fun q hq e => (own_blk_ne HOW.out HBU.out (by decide)) (by rw [hq, e])
      have ow5 : (wr.setCell ⟨U, 1, none⟩ (.int .i64 ((m ||| 2 ^ x : Nat) : Int))).drew.ownsRow w.heap.size 88 4 v k (ps.flatMap Pt.cs) := owns_setCell HOW.out ⟨U, 1, none⟩ _ hvU
      have hb5 : Below w.heap.size w (wr.setCell ⟨U, 1, none⟩ (.int .i64 ((m ||| 2 ^ x : Nat) : Int))).drew := (hb.setCell (p := ⟨U, 1, none⟩) HUw.out _).drew
      have hx5 : (wr.setCell ⟨U, 1, none⟩ (.int .i64 ((m ||| 2 ^ x : Nat) : Int))).drew.cell? ⟨b3, o3 + k, none⟩ = some (.string y) := by
        have hne : (⟨U, 1, none⟩ : Addr).block ≠ (⟨b3, o3 + k, none⟩ : Addr).block := by
          show U ≠ b3
          have hb3w : b3 < w.heap.size := by
            obtain ⟨b', o', he, hl, _⟩ := HB.out.at1 k hlt
            cases he
            exact hl
          have := HUw.out
          omega
        show (wr.setCell ⟨U, 1, none⟩ (.int .i64 ((m ||| 2 ^ x : Nat) : Int))).cell? ⟨b3, o3 + k, none⟩ = _
        rw [World.cell?_setCell_far _ _ _ _ hne]
        exact hx3
      generalize (wr.setCell ⟨U, 1, none⟩ (.int .i64 ((m ||| 2 ^ x : Nat) : Int))).drew = w5 at bU5 ow5 hb5 hx5 ⊢
      clear hb HBU HOW y1 f1 hx1 hx3 hb1 hb3
      have y4 := bU5.cell 4
      have f4 := bU5.frozen 4
      simp only [List.getElem?_toArray, List.getElem?_cons_zero, List.getElem?_cons_succ] at y4
      have y4a : (w5.alloc (.cells #[.int .i64 (x : Int), .string y, .bool false, .bool false] 88)).cell? ⟨U, 4, none⟩ = some v := by
        have b2 : Blk (w5.alloc (.cells #[.int .i64 (x : Int), .string y, .bool false, .bool false] 88)) U 86 #[.int .i64 stripe, .int .i64 ((m ||| 2 ^ x : Nat) : Int), .int .i64 e, .int .i64 s, v, .bool false, .bool false] := (Below.heap_alloc _ _ U bU5.lt).trans bU5
        exact b2.cell 4
      have HBW := Lib.hid hb5
      have FA : Hid (∀ w8, ((w5.alloc (.cells #[.int .i64 (x : Int), .string y, .bool false, .bool false] 88)).drew).grownBy w8 v.ownBlock → w8.cell? ⟨U, 4, none⟩ = some v ∧ w8.frozen? ⟨U, 4, none⟩ = false) := Lib.hid fun w8 hg => by
        have b2 : Blk w8 U 86 #[.int .i64 stripe, .int .i64 ((m ||| 2 ^ x : Nat) : Int), .int .i64 e, .int .i64 s, v, .bool false, .bool false] := (hg.block U (Nat.lt_of_lt_of_le bU5.lt (by show w5.heap.size ≤ (w5.alloc (.cells #[.int .i64 (x : Int), .string y, .bool false, .bool false] 88)).heap.size; simp)) (fun e => hvU U e.symm rfl)).trans ((Below.heap_alloc _ _ U bU5.lt).trans bU5)
        exact ⟨Blk.cell (t := 86) b2 4, Blk.frozen (t := 86) b2 4⟩
      have FIN : Hid (∀ w8 v8, w8.ownsRow w.heap.size 88 4 v8 (k + 1) (ps.flatMap Pt.cs ++ (⟨x, y, false, false⟩ : Pt).cs) → ((w5.alloc (.cells #[.int .i64 (x : Int), .string y, .bool false, .bool false] 88)).drew).grownBy w8 v.ownBlock →
          Blk (w8.setCell ⟨U, 4, none⟩ v8) U 86 (#[.int .i64 stripe, .int .i64 ((m ||| 2 ^ x : Nat) : Int), .int .i64 e, .int .i64 s, v, .bool false, .bool false].setIfInBounds 4 v8) ∧ (w8.setCell ⟨U, 4, none⟩ v8).ownsRow w.heap.size 88 4 v8 (k + 1) ((ps ++ [(⟨x, y, false, false⟩ : Pt)]).flatMap Pt.cs)) := Lib.hid fun w8 v8 ho hg => by
        have b2 : Blk w8 U 86 #[.int .i64 stripe, .int .i64 ((m ||| 2 ^ x : Nat) : Int), .int .i64 e, .int .i64 s, v, .bool false, .bool false] := (hg.block U (Nat.lt_of_lt_of_le bU5.lt (by show w5.heap.size ≤ (w5.alloc (.cells #[.int .i64 (x : Int), .string y, .bool false, .bool false] 88)).heap.size; simp)) (fun e => hvU U e.symm rfl)).trans ((Below.heap_alloc _ _ U bU5.lt).trans bU5)
        refine ⟨b2.set_ 4 v8, ?_⟩
        rw [List.flatMap_append, List.flatMap_singleton]
        exact owns_setCell ho _ _ fun q hq e => (own_blk_ne ho b2 (by decide)) (by rw [hq, e])
      have OW := Lib.hid ow5
      have hk6 : k ≤ 6 := by omega
      clear bU5 ow5 hb5 hvU
      go_region_law (first
        | (refine step_app ap84 (by rfl) _ _ (by rfl) w (HBW.out.alloc HBW.out.size _).drew v k (ps.flatMap Pt.cs) (by rfl) (OW.out.alloc _) _ 1 1 (⟨x, y, false, false⟩ : Pt).cs (by rfl) (by first | exact Rd.list w5 (⟨x, y, false, false⟩ : Pt).cs 88 1 4 rfl | exact (Rd.list w5 (⟨x, y, false, false⟩ : Pt).cs 88 1 4 rfl).below ((Below.refl _ _).drew)) (pt_cells _) (by unfold maxLen; omega) (by omega) ?_; intro v8 w8 o8 g8 b8; obtain ⟨e8, c8, rfl, _, _⟩ := World.ownsRow.form o8 (by omega); obtain ⟨q0, q1⟩ := FA.out _ g8))
      all_goals
        have FF := Lib.hid (FIN.out _ _ o8 g8)
        have HB8 := Lib.hid (b8.setCell (p := ⟨U, 4, none⟩) HUw.out (.slice (some ⟨e8, 0, none⟩) (k + 1) c8))
        clear o8 g8 b8 q0 q1
        go_wp2_with fail
        go_roundw
        case rel => exact ⟨k + 1, by omega, by go_num, ⟨_, Lib.hid (by rw [HM.out]; exact FF.out.1), Lib.hid (by rw [HPS.out]; exact FF.out.2)⟩, HB8.out⟩
        case measure => simp [intOf]; omega
    · obtain rfl : k = cols.length := by omega
      rw [List.take_length, List.take_of_length_le (by rw [HNL.out]; exact Nat.le_refl _)] at HOW
      rw [List.take_length] at HBU
      go_wp2_with fail
      go_ret2
      refine ⟨U, v, rfl, ⟨HBU.out, ?_⟩, hb, HUw.out, fun i hi => (owns_lt HOW.out i hi).1⟩
      have hpl : (partsOf cols bl).length = cols.length := by unfold partsOf; rw [List.length_map, List.length_zip, HNL.out, Nat.min_self]
      have := HOW.out
      show wr.ownsRow 0 88 4 v (partsOf cols bl).length ((partsOf cols bl).flatMap Pt.cs)
      rw [hpl]
      refine ⟨this.1, ?_⟩
      rcases this.2 with h1 | ⟨g, cap, cur, h1, h2, h3⟩
      · exact .inl h1
      · exact .inr ⟨g, cap, cur, h1, Nat.zero_le _, h3⟩

set_option maxHeartbeats 800000 in
theorem new_bad {stripe e s : Int} (s0 : 0 ≤ stripe) (s1 : stripe < 8) (he : e < 1) (vc vb : Value) (w : World) :
    Calls Try.prog 29 #[.int .i64 stripe, .agg #[.int .i64 e, .int .i64 s], vc, vb] w fun r w' => r = .returned (.tuple #[.pointer none, .int .i64 1]) ∧ Below w.heap.size w w' := by
  have HR := Lib.hid (right_bad (s := s) s0 s1 he vc vb (w.alloc (.cells #[.int .i64 e, .int .i64 s] 34)))
  have hal := Lib.hid (show Below w.heap.size w (w.alloc (.cells #[.int .i64 e, .int .i64 s] 34)) from (Below.refl _ _).alloc (Nat.le_refl _) _)
  go_enter Try.func29, Try.ntmps29
  go_wp2_with fail
  refine HR.out.mono ?_; rintro r w2 ⟨rfl, hb2⟩
  have HB := Lib.hid (below_then hal.out hb2)
  go_wp2_with fail
  go_ret2
  exact ⟨rfl, HB.out⟩
end Go.Proofs.Ytaeeflfhjmjpjaa
