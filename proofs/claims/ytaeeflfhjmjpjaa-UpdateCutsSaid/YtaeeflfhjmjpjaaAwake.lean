/- The walk of law15.awake. -/
import Derived.Test.YtaeeflfhjmjpjaaSame
import Derived.Deep.RegionHeld3
namespace Go.Proofs.Ytaeeflfhjmjpjaa
open Go.RowKit SlRd
set_option linter.unusedVariables false

/-- a record in a block of its own -/
def RecAt (W : World) (B : Nat) (r : Rc) : Prop := B < W.heap.size ∧ ∀ j, W.cell? ⟨B, j, none⟩ = r.cs[j]?
theorem RecAt.below {W W' : World} {B : Nat} {r : Rc} (h : RecAt W B r) (hb : Below W.heap.size W W') : RecAt W' B r :=
  ⟨Nat.lt_of_lt_of_le h.1 hb.size, fun j => by rw [hb.cell (p := ⟨B, j, none⟩) h.1]; exact h.2 j⟩
theorem RecAt.new (W : World) (r : Rc) : RecAt (W.alloc (.cells r.cs.toArray 37)) W.heap.size r := ⟨by simp, fun j => by rw [World.cell?_alloc_at _ _ _ _ rfl]; simp⟩
theorem RecAt.all {W : World} {B : Nat} {r : Rc} (h : RecAt W B r) : W.cell? ⟨B, 0, none⟩ = some (.bool r.used) ∧ W.cell? ⟨B, 1, none⟩ = some (.int .i64 r.fence) ∧ W.cell? ⟨B, 2, none⟩ = some (.int .i64 r.done.e) ∧
    W.cell? ⟨B, 3, none⟩ = some (.int .i64 r.done.s) ∧ W.cell? ⟨B, 4, none⟩ = some (.string r.block) ∧ W.cell? ⟨B, 5, none⟩ = some (.bool r.op) ∧ W.cell? ⟨B, 6, none⟩ = some (.int .i64 r.intent.e) ∧
    W.cell? ⟨B, 7, none⟩ = some (.int .i64 r.intent.s) ∧ W.cell? ⟨B, 8, none⟩ = some (.int .i64 r.mask) ∧ W.cell? ⟨B, 9, none⟩ = some (.string r.staged) :=
  ⟨h.2 0, h.2 1, h.2 2, h.2 3, h.2 4, h.2 5, h.2 6, h.2 7, h.2 8, h.2 9⟩

def rO : Rc := ⟨true, 0, ⟨0, 0⟩, ⟨#[]⟩, true, ⟨3, 1⟩, 3, ⟨#[]⟩⟩
def rD : Rc := ⟨true, 0, ⟨2, 9⟩, ⟨#[]⟩, false, ⟨0, 0⟩, 0, ⟨#[]⟩⟩
def rE : Rc := ⟨true, 0, ⟨3, 1⟩, ⟨#[]⟩, false, ⟨0, 0⟩, 0, ⟨#[]⟩⟩
theorem askedA : asked [true, true] [rO, rO] = [0, 1] := by decide
theorem askedB : asked [true, true] [rO, rD] = [0] := by decide
theorem askedC : asked [true, true] [rO, rE] = [0] := by decide
theorem fwA : FW [true, true] [rO, rO] ⟨3, 1⟩ 3 = true := by decide
theorem fwB : FW [true, true] [rO, rD] ⟨3, 1⟩ 3 = false := by decide
theorem fwC : FW [true, true] [rO, rE] ⟨3, 1⟩ 3 = true := by decide

/-- two records laid one behind the other -/
theorem given_two {W : World} {vk : Value} (p q : Rc) (hk : Rd W 1 vk 2 [.bool true, .bool true]) (hp : -9223372036854775808 ≤ p.mask ∧ p.mask ≤ 9223372036854775807) (hq : -9223372036854775808 ≤ q.mask ∧ q.mask ≤ 9223372036854775807) :
    Given (W.alloc (.cells (p.cs ++ q.cs).toArray 37)) [true, true] [p, q] vk (.slice (some ⟨W.heap.size, 0, none⟩) 2 2) := by
  have hb : Below W.heap.size W (W.alloc (.cells (p.cs ++ q.cs).toArray 37)) := (Below.refl _ _).alloc (Nat.le_refl _) _
  refine ⟨hk.below hb, ?_, by simp, by simp, ?_⟩
  · have := Rd.lit (W := W) (p.cs ++ q.cs).toArray 37 2 10 (by simp)
    simpa using this
  · intro r hr
    simp only [List.mem_cons, List.not_mem_nil, or_false] at hr
    rcases hr with rfl | rfl
    · exact hp
    · exact hq

/-- all that the example's last line reads -/
structure SAll (w : World) (N bA oA bB oB bC oC : Nat) (vA vB vC : Value) (W : World) : Prop where
  a : Rd W 1 vA 2 (IV [0, 1])
  b : Rd W 1 vB 1 (IV [0])
  c : Rd W 1 vC 1 (IV [0])
  hb : Below w.heap.size w W
  lA : bA < W.heap.size
  lB : bB < W.heap.size
  lC : bC < W.heap.size
  lN : N < W.heap.size
  x0 : W.cell? ⟨bA, oA + 9, none⟩ = some (.int .i64 6)
  x1 : W.cell? ⟨bA, oA + 9 + 1, none⟩ = some (.int .i64 0)
  x2 : W.cell? ⟨bA, oA + 9 + 2, none⟩ = some (.int .i64 5)
  x3 : W.cell? ⟨bA, oA + 9 + 3, none⟩ = some (.int .i64 0)
  x4 : W.cell? ⟨bA, oA + 9 + 4, none⟩ = some (.int .i64 1)
  x5 : W.cell? ⟨bA, oA + 9 + 5, none⟩ = some (.int .i64 0)
  x6 : W.cell? ⟨bA, oA + 9 + 6, none⟩ = some (.int .i64 3)
  x7 : W.cell? ⟨bA, oA + 9 + 7, none⟩ = some (.int .i64 1)
  x8 : W.cell? ⟨bA, oA + 9 + 8, none⟩ = some (.string ⟨#[]⟩)
  yA : W.cell? ⟨bA, oA + 4, none⟩ = some (.int .i64 1)
  yB : W.cell? ⟨bB, oB + 4, none⟩ = some (.int .i64 0)
  yC : W.cell? ⟨bC, oC + 4, none⟩ = some (.int .i64 1)
  z6 : W.cell? ⟨N, 6, none⟩ = some (.int .i64 3)
  z7 : W.cell? ⟨N, 7, none⟩ = some (.int .i64 1)
section
variable {w : World} {N bA oA bB oB bC oC : Nat} {vA vB vC : Value} {W W' : World}
theorem SAll.below (h : SAll w N bA oA bB oB bC oC vA vB vC W) (hb : Below W.heap.size W W') : SAll w N bA oA bB oB bC oC vA vB vC W' := by
  have A : ∀ i, W'.cell? ⟨bA, i, none⟩ = W.cell? ⟨bA, i, none⟩ := fun i => hb.cell (p := ⟨bA, i, none⟩) h.lA
  have B : ∀ i, W'.cell? ⟨bB, i, none⟩ = W.cell? ⟨bB, i, none⟩ := fun i => hb.cell (p := ⟨bB, i, none⟩) h.lB
  have C : ∀ i, W'.cell? ⟨bC, i, none⟩ = W.cell? ⟨bC, i, none⟩ := fun i => hb.cell (p := ⟨bC, i, none⟩) h.lC
  have D : ∀ i, W'.cell? ⟨N, i, none⟩ = W.cell? ⟨N, i, none⟩ := fun i => hb.cell (p := ⟨N, i, none⟩) h.lN
  exact ⟨h.a.below hb, h.b.below hb, h.c.below hb, h.hb.trans (hb.mono h.hb.size), Nat.lt_of_lt_of_le h.lA hb.size, Nat.lt_of_lt_of_le h.lB hb.size, Nat.lt_of_lt_of_le h.lC hb.size, Nat.lt_of_lt_of_le h.lN hb.size,
    (A _).trans h.x0, (A _).trans h.x1, (A _).trans h.x2, (A _).trans h.x3, (A _).trans h.x4, (A _).trans h.x5, (A _).trans h.x6, (A _).trans h.x7, (A _).trans h.x8, (A _).trans h.yA, (B _).trans h.yB, (C _).trans h.yC, (D _).trans h.z6, (D _).trans h.z7⟩
theorem SAll.full (h : SAll w N bA oA bB oB bC oC vA vB vC W) : W.cell? ⟨bA, oA + 9, none⟩ = some (.int .i64 6) ∧ W.cell? ⟨bA, oA + 9 + 1, none⟩ = some (.int .i64 0) ∧ W.cell? ⟨bA, oA + 9 + 2, none⟩ = some (.int .i64 5) ∧ W.cell? ⟨bA, oA + 9 + 3, none⟩ = some (.int .i64 0) ∧
    W.cell? ⟨bA, oA + 9 + 4, none⟩ = some (.int .i64 1) ∧ W.cell? ⟨bA, oA + 9 + 5, none⟩ = some (.int .i64 0) ∧ W.cell? ⟨bA, oA + 9 + 6, none⟩ = some (.int .i64 3) ∧ W.cell? ⟨bA, oA + 9 + 7, none⟩ = some (.int .i64 1) ∧ W.cell? ⟨bA, oA + 9 + 8, none⟩ = some (.string ⟨#[]⟩) ∧
    W.cell? ⟨bA, oA + 4, none⟩ = some (.int .i64 1) ∧ W.cell? ⟨bB, oB + 4, none⟩ = some (.int .i64 0) ∧ W.cell? ⟨bC, oC + 4, none⟩ = some (.int .i64 1) ∧ W.cell? ⟨N, 6, none⟩ = some (.int .i64 3) ∧ W.cell? ⟨N, 7, none⟩ = some (.int .i64 1) ∧ SAll w N bA oA bB oB bC oC vA vB vC W :=
  ⟨h.x0, h.x1, h.x2, h.x3, h.x4, h.x5, h.x6, h.x7, h.x8, h.yA, h.yB, h.yC, h.z6, h.z7, h⟩
end
set_option maxRecDepth 100000 in
set_option maxHeartbeats 1600000 in
theorem awake_any (w : World) : Calls Try.prog 15 #[] w fun e w' => e = .returned (.bool true) ∧ Below w.heap.size w w' := by
  go_enter Try.func15, Try.ntmps15
  go_upto_region 4 with fail
  have eo : RecAt (((w.alloc (.cells #[.bool true, .int .i64 0, .int .i64 0, .int .i64 0, .string ⟨#[]⟩, .bool true, .int .i64 3, .int .i64 1, .int .i64 3, .string ⟨#[]⟩] 37)).alloc (.cells #[.bool true, .int .i64 0, .int .i64 2, .int .i64 9, .string ⟨#[]⟩, .bool false, .int .i64 0, .int .i64 0, .int .i64 0, .string ⟨#[]⟩] 37)).alloc (.cells #[.bool true, .int .i64 0, .int .i64 3, .int .i64 1, .string ⟨#[]⟩, .bool false, .int .i64 0, .int .i64 0, .int .i64 0, .string ⟨#[]⟩] 37)) w.heap.size rO := ((RecAt.new w rO).below ((Below.refl _ _).alloc (Nat.le_refl _) (.cells #[.bool true, .int .i64 0, .int .i64 2, .int .i64 9, .string ⟨#[]⟩, .bool false, .int .i64 0, .int .i64 0, .int .i64 0, .string ⟨#[]⟩] 37))).below ((Below.refl _ _).alloc (Nat.le_refl _) (.cells #[.bool true, .int .i64 0, .int .i64 3, .int .i64 1, .string ⟨#[]⟩, .bool false, .int .i64 0, .int .i64 0, .int .i64 0, .string ⟨#[]⟩] 37))
  have ed : RecAt (((w.alloc (.cells #[.bool true, .int .i64 0, .int .i64 0, .int .i64 0, .string ⟨#[]⟩, .bool true, .int .i64 3, .int .i64 1, .int .i64 3, .string ⟨#[]⟩] 37)).alloc (.cells #[.bool true, .int .i64 0, .int .i64 2, .int .i64 9, .string ⟨#[]⟩, .bool false, .int .i64 0, .int .i64 0, .int .i64 0, .string ⟨#[]⟩] 37)).alloc (.cells #[.bool true, .int .i64 0, .int .i64 3, .int .i64 1, .string ⟨#[]⟩, .bool false, .int .i64 0, .int .i64 0, .int .i64 0, .string ⟨#[]⟩] 37)) (w.heap.size + 1) rD := by
    have := (RecAt.new (w.alloc (.cells #[.bool true, .int .i64 0, .int .i64 0, .int .i64 0, .string ⟨#[]⟩, .bool true, .int .i64 3, .int .i64 1, .int .i64 3, .string ⟨#[]⟩] 37)) rD).below ((Below.refl _ _).alloc (Nat.le_refl _) (.cells #[.bool true, .int .i64 0, .int .i64 3, .int .i64 1, .string ⟨#[]⟩, .bool false, .int .i64 0, .int .i64 0, .int .i64 0, .string ⟨#[]⟩] 37))
    rw [show (w.alloc (.cells #[.bool true, .int .i64 0, .int .i64 0, .int .i64 0, .string ⟨#[]⟩, .bool true, .int .i64 3, .int .i64 1, .int .i64 3, .string ⟨#[]⟩] 37)).heap.size = w.heap.size + 1 from by simp] at this
    exact this
  have ee : RecAt (((w.alloc (.cells #[.bool true, .int .i64 0, .int .i64 0, .int .i64 0, .string ⟨#[]⟩, .bool true, .int .i64 3, .int .i64 1, .int .i64 3, .string ⟨#[]⟩] 37)).alloc (.cells #[.bool true, .int .i64 0, .int .i64 2, .int .i64 9, .string ⟨#[]⟩, .bool false, .int .i64 0, .int .i64 0, .int .i64 0, .string ⟨#[]⟩] 37)).alloc (.cells #[.bool true, .int .i64 0, .int .i64 3, .int .i64 1, .string ⟨#[]⟩, .bool false, .int .i64 0, .int .i64 0, .int .i64 0, .string ⟨#[]⟩] 37)) (w.heap.size + 1 + 1) rE := by
    have := RecAt.new ((w.alloc (.cells #[.bool true, .int .i64 0, .int .i64 0, .int .i64 0, .string ⟨#[]⟩, .bool true, .int .i64 3, .int .i64 1, .int .i64 3, .string ⟨#[]⟩] 37)).alloc (.cells #[.bool true, .int .i64 0, .int .i64 2, .int .i64 9, .string ⟨#[]⟩, .bool false, .int .i64 0, .int .i64 0, .int .i64 0, .string ⟨#[]⟩] 37)) rE
    rw [show ((w.alloc (.cells #[.bool true, .int .i64 0, .int .i64 0, .int .i64 0, .string ⟨#[]⟩, .bool true, .int .i64 3, .int .i64 1, .int .i64 3, .string ⟨#[]⟩] 37)).alloc (.cells #[.bool true, .int .i64 0, .int .i64 2, .int .i64 9, .string ⟨#[]⟩, .bool false, .int .i64 0, .int .i64 0, .int .i64 0, .string ⟨#[]⟩] 37)).heap.size = w.heap.size + 1 + 1 from by simp] at this
    exact this
  have hB : Below w.heap.size w (((w.alloc (.cells #[.bool true, .int .i64 0, .int .i64 0, .int .i64 0, .string ⟨#[]⟩, .bool true, .int .i64 3, .int .i64 1, .int .i64 3, .string ⟨#[]⟩] 37)).alloc (.cells #[.bool true, .int .i64 0, .int .i64 2, .int .i64 9, .string ⟨#[]⟩, .bool false, .int .i64 0, .int .i64 0, .int .i64 0, .string ⟨#[]⟩] 37)).alloc (.cells #[.bool true, .int .i64 0, .int .i64 3, .int .i64 1, .string ⟨#[]⟩, .bool false, .int .i64 0, .int .i64 0, .int .i64 0, .string ⟨#[]⟩] 37)) := (((Below.refl _ _).alloc (Nat.le_refl _) _).alloc (by simp) _).alloc (by simp; omega) _
  generalize ((w.alloc (.cells #[.bool true, .int .i64 0, .int .i64 0, .int .i64 0, .string ⟨#[]⟩, .bool true, .int .i64 3, .int .i64 1, .int .i64 3, .string ⟨#[]⟩] 37)).alloc (.cells #[.bool true, .int .i64 0, .int .i64 2, .int .i64 9, .string ⟨#[]⟩, .bool false, .int .i64 0, .int .i64 0, .int .i64 0, .string ⟨#[]⟩] 37)).alloc (.cells #[.bool true, .int .i64 0, .int .i64 3, .int .i64 1, .string ⟨#[]⟩, .bool false, .int .i64 0, .int .i64 0, .int .i64 0, .string ⟨#[]⟩] 37) = w0 at eo ed ee hB ⊢
  go_upto_region 5 with fail
  have hk1 : Rd (w0.alloc (.cells #[.bool true, .bool true] 4)) 1 (.slice (some ⟨w0.heap.size, 0, none⟩) 2 2) 2 [.bool true, .bool true] := Rd.lit #[.bool true, .bool true] 4 2 1 rfl
  have hb1 : Below w0.heap.size w0 (w0.alloc (.cells #[.bool true, .bool true] 4)) := (Below.refl _ _).alloc (Nat.le_refl _) _
  have eo1 := eo.below hb1
  have ed1 := ed.below hb1
  have ee1 := ee.below hb1
  have hB1 := hB.trans (hb1.mono hB.size)
  clear eo ed ee hB hb1
  generalize w0.alloc (.cells #[.bool true, .bool true] 4) = w1 at hk1 eo1 ed1 ee1 hB1 ⊢
  generalize w0.heap.size = M at hk1 ⊢
  obtain ⟨x0, x1, x2, x3, x4, x5, x6, x7, x8, x9⟩ := (eo1 : RecAt w1 (w.heap.size) _).all
  simp only [rO] at x0 x1 x2 x3 x4 x5 x6 x7 x8 x9
  go_wp2_with fail
  have hG1 := given_two rO rO hk1 (by decide) (by decide)
  have hc1 : Below w1.heap.size w1 (w1.alloc (.cells (rO.cs ++ rO.cs).toArray 37)) := (Below.refl _ _).alloc (Nat.le_refl _) _
  refine (asks_any hG1 0 5).mono ?_; rintro e w2 ⟨v1, v2, rfl, hiA, hsA, hd1⟩
  have hn1 := hc1.trans (hd1.mono hc1.size)
  rw [askedA] at hiA hsA
  obtain ⟨aiA, ciA, rfl⟩ := owns_form hiA
  obtain ⟨asA, csA, rfl⟩ := owns_form hsA
  have RIA := Rd.of_owns hiA
  have RSA := Rd.of_owns hsA
  have hk2 := hk1.below hn1
  have eo2 := eo1.below hn1
  have ed2 := ed1.below hn1
  have ee2 := ee1.below hn1
  have hB2 := hB1.trans (hn1.mono hB1.size)
  clear hG1 hc1 hd1 hn1 hiA hsA hk1 eo1 ed1 ee1 hB1 x0 x1 x2 x3 x4 x5 x6 x7 x8 x9
  obtain ⟨x0, x1, x2, x3, x4, x5, x6, x7, x8, x9⟩ := (eo2 : RecAt w2 (w.heap.size) _).all
  obtain ⟨y0, y1, y2, y3, y4, y5, y6, y7, y8, y9⟩ := (ed2 : RecAt w2 (w.heap.size + 1) _).all
  simp only [rO, rD] at x0 x1 x2 x3 x4 x5 x6 x7 x8 x9 y0 y1 y2 y3 y4 y5 y6 y7 y8 y9
  go_wp2_with fail
  have hG2 := given_two rO rD hk2 (by decide) (by decide)
  have hc2 : Below w2.heap.size w2 (w2.alloc (.cells (rO.cs ++ rD.cs).toArray 37)) := (Below.refl _ _).alloc (Nat.le_refl _) _
  refine (asks_any hG2 0 5).mono ?_; rintro e w3 ⟨v1, v2, rfl, hiB, hsB, hd2⟩
  have hn2 := hc2.trans (hd2.mono hc2.size)
  rw [askedB] at hiB hsB
  obtain ⟨aiB, ciB, rfl⟩ := owns_form hiB
  obtain ⟨asB, csB, rfl⟩ := owns_form hsB
  have RIB := Rd.of_owns hiB
  have RSB := Rd.of_owns hsB
  have hk3 := hk2.below hn2
  have eo3 := eo2.below hn2
  have ed3 := ed2.below hn2
  have ee3 := ee2.below hn2
  have hB3 := hB2.trans (hn2.mono hB2.size)
  have RIA := RIA.below hn2
  have RSA := RSA.below hn2
  clear hG2 hc2 hd2 hn2 hiB hsB hk2 eo2 ed2 ee2 hB2 x0 x1 x2 x3 x4 x5 x6 x7 x8 x9 y0 y1 y2 y3 y4 y5 y6 y7 y8 y9
  obtain ⟨x0, x1, x2, x3, x4, x5, x6, x7, x8, x9⟩ := (eo3 : RecAt w3 (w.heap.size) _).all
  obtain ⟨y0, y1, y2, y3, y4, y5, y6, y7, y8, y9⟩ := (ee3 : RecAt w3 (w.heap.size + 1 + 1) _).all
  simp only [rO, rE] at x0 x1 x2 x3 x4 x5 x6 x7 x8 x9 y0 y1 y2 y3 y4 y5 y6 y7 y8 y9
  go_wp2_with fail
  have hG3 := given_two rO rE hk3 (by decide) (by decide)
  have hc3 : Below w3.heap.size w3 (w3.alloc (.cells (rO.cs ++ rE.cs).toArray 37)) := (Below.refl _ _).alloc (Nat.le_refl _) _
  refine (asks_any hG3 0 5).mono ?_; rintro e w4 ⟨v1, v2, rfl, hiC, hsC, hd3⟩
  have hn3 := hc3.trans (hd3.mono hc3.size)
  rw [askedC] at hiC hsC
  obtain ⟨aiC, ciC, rfl⟩ := owns_form hiC
  obtain ⟨asC, csC, rfl⟩ := owns_form hsC
  have RIC := Rd.of_owns hiC
  have RSC := Rd.of_owns hsC
  have hk4 := hk3.below hn3
  have eo4 := eo3.below hn3
  have ed4 := ed3.below hn3
  have ee4 := ee3.below hn3
  have hB4 := hB3.trans (hn3.mono hB3.size)
  have RIA := RIA.below hn3
  have RSA := RSA.below hn3
  have RIB := RIB.below hn3
  have RSB := RSB.below hn3
  clear hG3 hc3 hd3 hn3 hiC hsC hk3 eo3 ed3 ee3 hB3 x0 x1 x2 x3 x4 x5 x6 x7 x8 x9 y0 y1 y2 y3 y4 y5 y6 y7 y8 y9
  go_upto_region 10 with fail
  have hAA : ([0, 1].map (askOf [true, true] [rO, rO] 0 5)) = [⟨6, 0, 5, 0, 1, 0, ⟨3, 1⟩, ⟨#[]⟩⟩, ⟨6, 0, 5, 0, 1, 0, ⟨3, 1⟩, ⟨#[]⟩⟩] := by decide
  have hBB : ([0].map (askOf [true, true] [rO, rD] 0 5)) = [⟨6, 0, 5, 0, 0, 0, ⟨3, 1⟩, ⟨#[]⟩⟩] := by decide
  have hCC : ([0].map (askOf [true, true] [rO, rE] 0 5)) = [⟨6, 0, 5, 0, 1, 0, ⟨3, 1⟩, ⟨#[]⟩⟩] := by decide
  rw [hAA] at RSA
  rw [hBB] at RSB
  rw [hCC] at RSC
  obtain ⟨bA, oA, rfl, lA, cA⟩ := Rd.atk Ak.cs (fun _ => rfl) RSA rfl 1 (by simp)
  obtain ⟨bA', oA', hAe, _, cA'⟩ := Rd.atk Ak.cs (fun _ => rfl) RSA rfl 0 (by simp)
  cases hAe
  obtain ⟨bB, oB, rfl, lB, cB⟩ := Rd.atk Ak.cs (fun _ => rfl) RSB rfl 0 (by simp)
  obtain ⟨bC, oC, rfl, lC, cC⟩ := Rd.atk Ak.cs (fun _ => rfl) RSC rfl 0 (by simp)
  have hS : SAll w w.heap.size bA oA bB oB bC oC (.slice aiA 2 ciA) (.slice aiB 1 ciB) (.slice aiC 1 ciC) w4 :=
    ⟨RIA, RIB, RIC, hB4, lA, lB, lC, eo4.1, by simpa using cA 0 (by omega), by simpa using cA 1 (by omega), by simpa using cA 2 (by omega), by simpa using cA 3 (by omega), by simpa using cA 4 (by omega), by simpa using cA 5 (by omega),
      by simpa using cA 6 (by omega), by simpa using cA 7 (by omega), by simpa using cA 8 (by omega), by simpa using cA' 4 (by omega), by simpa using cB 4 (by omega), by simpa using cC 4 (by omega), eo4.2 6, eo4.2 7⟩
  clear RSA RSB RSC RIA RIB RIC hB4 lA lB lC eo4 ed4 ee4 cA cA' cB cC hk4 hAA hBB hCC
  have heq : ∀ W, (Op.equalIn 10000 43 (.agg #[.int .i64 6, .int .i64 0, .int .i64 5, .int .i64 0, .int .i64 1, .int .i64 0, .int .i64 3, .int .i64 1, .string ⟨#[]⟩]) (.agg #[.int .i64 6, .int .i64 0, .int .i64 5, .int .i64 0, .int .i64 1, .int .i64 0, .int .i64 3, .int .i64 1, .string ⟨#[]⟩])).run Try.prog W = .ok true W := fun W => by
    have := eqAsk W ⟨6, 0, 5, 0, 1, 0, ⟨3, 1⟩, ⟨#[]⟩⟩ ⟨6, 0, 5, 0, 1, 0, ⟨3, 1⟩, ⟨#[]⟩⟩
    simpa using this
  have i1 : (0 : Int) < ((2 : Nat) : Int) := by omega
  have hd := hS.below ((Below.refl _ w4).drew)
  go_region_held3 (fun W => W.cell? ⟨bA, oA + 9, none⟩ = some (.int .i64 6) ∧ W.cell? ⟨bA, oA + 9 + 1, none⟩ = some (.int .i64 0) ∧ W.cell? ⟨bA, oA + 9 + 2, none⟩ = some (.int .i64 5) ∧ W.cell? ⟨bA, oA + 9 + 3, none⟩ = some (.int .i64 0) ∧ W.cell? ⟨bA, oA + 9 + 4, none⟩ = some (.int .i64 1) ∧ W.cell? ⟨bA, oA + 9 + 5, none⟩ = some (.int .i64 0) ∧ W.cell? ⟨bA, oA + 9 + 6, none⟩ = some (.int .i64 3) ∧ W.cell? ⟨bA, oA + 9 + 7, none⟩ = some (.int .i64 1) ∧ W.cell? ⟨bA, oA + 9 + 8, none⟩ = some (.string ⟨#[]⟩) ∧ W.cell? ⟨bA, oA + 4, none⟩ = some (.int .i64 1) ∧ W.cell? ⟨bB, oB + 4, none⟩ = some (.int .i64 0) ∧ W.cell? ⟨bC, oC + 4, none⟩ = some (.int .i64 1) ∧ W.cell? ⟨w.heap.size, 6, none⟩ = some (.int .i64 3) ∧ W.cell? ⟨w.heap.size, 7, none⟩ = some (.int .i64 1) ∧ SAll w w.heap.size bA oA bB oB bC oC (.slice aiA 2 ciA) (.slice aiB 1 ciB) (.slice aiC 1 ciC) W)
    (first
      | exact hd.full
      | (go_split_ands; exact SAll.full (SAll.below (by assumption) ((Below.refl _ _).alloc (Nat.le_refl _) _)))
      | (go_split_ands; exact SAll.full (SAll.below (by assumption) (by assumption))))
    (first
      | (go_at_call_of 25 (aiA); go_split_ands; refine (ints_any [0, 1] [0, 1] _ _ _ (SAll.a (by assumption)) (by first | exact Rd.lit #[.int .i64 0, .int .i64 1] 3 2 1 rfl | exact (Rd.lit (W := _) #[.int .i64 0, .int .i64 1] 3 2 1 rfl).below ((Below.refl _ _).drew)) (by decide) (by decide)).mono ?_; rintro e w' ⟨rfl, hbI⟩)
      | (go_at_call_of 25 (aiB); go_split_ands; refine (ints_any [0] [0] _ _ _ (SAll.b (by assumption)) (by first | exact Rd.lit #[.int .i64 0] 3 1 1 rfl | exact (Rd.lit (W := _) #[.int .i64 0] 3 1 1 rfl).below ((Below.refl _ _).drew)) (by decide) (by decide)).mono ?_; rintro e w' ⟨rfl, hbI⟩)
      | (go_at_call_of 25 (aiC); go_split_ands; refine (ints_any [0] [0] _ _ _ (SAll.c (by assumption)) (by first | exact Rd.lit #[.int .i64 0] 3 1 1 rfl | exact (Rd.lit (W := _) #[.int .i64 0] 3 1 1 rfl).below ((Below.refl _ _).drew)) (by decide) (by decide)).mono ?_; rintro e w' ⟨rfl, hbI⟩))
  go_split_ands
  have hF := SAll.hb (by assumption)
  go_wp2_with fail
  go_ret
  exact ⟨rfl, hF⟩
end Go.Proofs.Ytaeeflfhjmjpjaa
