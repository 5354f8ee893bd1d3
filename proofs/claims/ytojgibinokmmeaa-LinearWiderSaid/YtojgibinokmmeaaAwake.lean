/- The walk of law19.awake. -/
import Derived.Test.YtojgibinokmmeaaEvent
import Derived.KernelRfl
namespace Go.Proofs.Ytojgibinokmmeaa
open Go.RowKit SlRd Lin
set_option linter.unusedVariables false

/-- events in blocks of their own -/
def Has (W : World) (L : List (Nat × Lin.Ev)) : Prop := ∀ q ∈ L, Blk W q.1 31 (Ecs q.2).toArray
section
variable {W W' : World} {L : List (Nat × Lin.Ev)} {x : Lin.Ev} {B : Nat}
theorem Has.nil (W : World) : Has W [] := fun q hq => by cases hq
theorem Has.below (h : Has W L) (hb : Below W.heap.size W W') : Has W' L := fun q hq => (hb.block q.1 (h q hq).lt).trans (h q hq)
theorem Has.new (h : Has W L) (x : Lin.Ev) : Has (W.alloc (.cells (Ecs x).toArray 31)) ((W.heap.size, x) :: L) := fun q hq => by
  rcases List.mem_cons.1 hq with rfl | hq
  · exact Blk.new _ _ _
  · exact h.below ((Below.refl _ _).alloc (Nat.le_refl _) _) q hq
theorem Has.cells (h : Has W L) (hm : (B, x) ∈ L) : W.cell? ⟨B, 0, none⟩ = some (.int .i64 x.pilot) ∧ W.cell? ⟨B, 1, none⟩ = some (.int .i64 x.begin_) ∧ W.cell? ⟨B, 2, none⟩ = some (.int .i64 x.end_) ∧ W.cell? ⟨B, 3, none⟩ = some (.int .i64 x.op.kind) ∧
    W.cell? ⟨B, 4, none⟩ = some (.int .i64 x.op.at_) ∧ W.cell? ⟨B, 5, none⟩ = some (.string x.op.data) ∧ W.cell? ⟨B, 6, none⟩ = some (.int .i64 x.err) ∧ W.cell? ⟨B, 7, none⟩ = some (.string x.data) :=
  ⟨(h _ hm).cell 0, (h _ hm).cell 1, (h _ hm).cell 2, (h _ hm).cell 3, (h _ hm).cell 4, (h _ hm).cell 5, (h _ hm).cell 6, (h _ hm).cell 7⟩
end
theorem lit_rd (W : World) (l : List Lin.Ev) : Rd (W.alloc (.cells (l.flatMap Ecs).toArray 31)) 8 (.slice (some ⟨W.heap.size, 0, none⟩) l.length l.length) l.length (l.flatMap Ecs) := by
  have := Rd.lit (W := W) (l.flatMap Ecs).toArray 31 l.length 8 (by rw [List.size_toArray]; exact flat_length Ecs 8 (fun _ => rfl) l)
  simpa using this
/-- Check of a list that is laid out here -/
theorem check_lit (first : ByteArray) (l : List Lin.Ev) (hl : l.length ≤ 100) (w : World) (r : Bool) (h : chk first l = r) :
    Calls Try.prog 14 #[.string first, .slice (some ⟨w.heap.size, 0, none⟩) l.length l.length] (w.alloc (.cells (l.flatMap Ecs).toArray 31)) fun e w' => e = .returned (.bool r) ∧ Below w.heap.size w w' := by
  refine (check_any first (lit_rd w l) (by omega)).mono ?_
  rintro e w' ⟨rfl, hb⟩
  exact ⟨by rw [h], ((Below.refl _ w).alloc (Nat.le_refl _) _).trans (hb.mono (by simp))⟩

def xa : Lin.Ev := evW ⟨#[97]⟩ 1 2
def xb : Lin.Ev := evW ⟨#[98]⟩ 3 4
def xc : Lin.Ev := evW ⟨#[97]⟩ 1 4
def xd : Lin.Ev := evW ⟨#[98]⟩ 2 3
def xx : Lin.Ev := evR ⟨#[97]⟩ 5 6
def xy : Lin.Ev := evR ⟨#[98]⟩ 5 6
def xo : Lin.Ev := ⟨0, 1, 0, ⟨2, 0, ⟨#[98]⟩⟩, 0, ⟨#[]⟩⟩
theorem k1 : chk ⟨#[]⟩ [xa, xb, xx] = false := by decide
theorem k2 : chk ⟨#[]⟩ [xa, xb, xy] = true := by decide
theorem k3 : chk ⟨#[]⟩ [xc, xd, xx] = true := by decide
theorem k4 : chk ⟨#[]⟩ [xc, xd, xy] = true := by decide
theorem k5 : chk ⟨#[]⟩ [xa, xo, xx] = true := by decide
theorem k6 : chk ⟨#[]⟩ [xa, xo, xy] = true := by decide
set_option maxRecDepth 100000 in
set_option maxHeartbeats 3200000 in
theorem awake_any (w : World) : Calls Try.prog 11 #[] w fun e w' => e = .returned (.bool true) ∧ Below w.heap.size w w' := by
  have h0 := Has.nil w
  have b0 := Below.refl w.heap.size w
  go_enter Try.func11, Try.ntmps11
  go_wp2_with fail
  refine (eventW_any ⟨#[97]⟩ 1 2 _).mono ?_; rintro e w1 ⟨rfl, c1⟩
  have h1 : Has (w1.alloc (.cells #[.int .i64 0, .int .i64 1, .int .i64 2, .int .i64 2, .int .i64 0, .string ⟨#[97]⟩, .int .i64 0, .string ⟨#[]⟩] 31)) ((w1.heap.size, xa) :: []) := (h0.below c1).new xa
  have b1 : Below w.heap.size w (w1.alloc (.cells #[.int .i64 0, .int .i64 1, .int .i64 2, .int .i64 2, .int .i64 0, .string ⟨#[97]⟩, .int .i64 0, .string ⟨#[]⟩] 31)) := below_al (below_then b0 c1) _
  go_upto_region 2 with fail
  generalize w1.alloc (.cells #[.int .i64 0, .int .i64 1, .int .i64 2, .int .i64 2, .int .i64 0, .string ⟨#[97]⟩, .int .i64 0, .string ⟨#[]⟩] 31) = v1 at h1 b1 ⊢
  generalize w1.heap.size = n1 at h1 ⊢
  clear h0 b0 c1
  go_wp2_with fail
  refine (eventW_any ⟨#[98]⟩ 3 4 _).mono ?_; rintro e w2 ⟨rfl, c2⟩
  have h2 : Has (w2.alloc (.cells #[.int .i64 0, .int .i64 3, .int .i64 4, .int .i64 2, .int .i64 0, .string ⟨#[98]⟩, .int .i64 0, .string ⟨#[]⟩] 31)) ((w2.heap.size, xb) :: (n1, xa) :: []) := (h1.below c2).new xb
  have b2 : Below w.heap.size w (w2.alloc (.cells #[.int .i64 0, .int .i64 3, .int .i64 4, .int .i64 2, .int .i64 0, .string ⟨#[98]⟩, .int .i64 0, .string ⟨#[]⟩] 31)) := below_al (below_then b1 c2) _
  go_upto_region 3 with fail
  generalize w2.alloc (.cells #[.int .i64 0, .int .i64 3, .int .i64 4, .int .i64 2, .int .i64 0, .string ⟨#[98]⟩, .int .i64 0, .string ⟨#[]⟩] 31) = v2 at h2 b2 ⊢
  generalize w2.heap.size = n2 at h2 ⊢
  clear h1 b1 c2
  go_wp2_with fail
  refine (eventW_any ⟨#[97]⟩ 1 4 _).mono ?_; rintro e w3 ⟨rfl, c3⟩
  have h3 : Has (w3.alloc (.cells #[.int .i64 0, .int .i64 1, .int .i64 4, .int .i64 2, .int .i64 0, .string ⟨#[97]⟩, .int .i64 0, .string ⟨#[]⟩] 31)) ((w3.heap.size, xc) :: (n2, xb) :: (n1, xa) :: []) := (h2.below c3).new xc
  have b3 : Below w.heap.size w (w3.alloc (.cells #[.int .i64 0, .int .i64 1, .int .i64 4, .int .i64 2, .int .i64 0, .string ⟨#[97]⟩, .int .i64 0, .string ⟨#[]⟩] 31)) := below_al (below_then b2 c3) _
  go_upto_region 4 with fail
  generalize w3.alloc (.cells #[.int .i64 0, .int .i64 1, .int .i64 4, .int .i64 2, .int .i64 0, .string ⟨#[97]⟩, .int .i64 0, .string ⟨#[]⟩] 31) = v3 at h3 b3 ⊢
  generalize w3.heap.size = n3 at h3 ⊢
  clear h2 b2 c3
  go_wp2_with fail
  refine (eventW_any ⟨#[98]⟩ 2 3 _).mono ?_; rintro e w4 ⟨rfl, c4⟩
  have h4 : Has (w4.alloc (.cells #[.int .i64 0, .int .i64 2, .int .i64 3, .int .i64 2, .int .i64 0, .string ⟨#[98]⟩, .int .i64 0, .string ⟨#[]⟩] 31)) ((w4.heap.size, xd) :: (n3, xc) :: (n2, xb) :: (n1, xa) :: []) := (h3.below c4).new xd
  have b4 : Below w.heap.size w (w4.alloc (.cells #[.int .i64 0, .int .i64 2, .int .i64 3, .int .i64 2, .int .i64 0, .string ⟨#[98]⟩, .int .i64 0, .string ⟨#[]⟩] 31)) := below_al (below_then b3 c4) _
  go_upto_region 5 with fail
  generalize w4.alloc (.cells #[.int .i64 0, .int .i64 2, .int .i64 3, .int .i64 2, .int .i64 0, .string ⟨#[98]⟩, .int .i64 0, .string ⟨#[]⟩] 31) = v4 at h4 b4 ⊢
  generalize w4.heap.size = n4 at h4 ⊢
  clear h3 b3 c4
  go_wp2_with fail
  refine (eventR_any ⟨#[97]⟩ 5 6 _).mono ?_; rintro e w5 ⟨rfl, c5⟩
  have h5 : Has (w5.alloc (.cells #[.int .i64 0, .int .i64 5, .int .i64 6, .int .i64 1, .int .i64 0, .string ⟨#[]⟩, .int .i64 0, .string ⟨#[97]⟩] 31)) ((w5.heap.size, xx) :: (n4, xd) :: (n3, xc) :: (n2, xb) :: (n1, xa) :: []) := (h4.below c5).new xx
  have b5 : Below w.heap.size w (w5.alloc (.cells #[.int .i64 0, .int .i64 5, .int .i64 6, .int .i64 1, .int .i64 0, .string ⟨#[]⟩, .int .i64 0, .string ⟨#[97]⟩] 31)) := below_al (below_then b4 c5) _
  go_upto_region 6 with fail
  generalize w5.alloc (.cells #[.int .i64 0, .int .i64 5, .int .i64 6, .int .i64 1, .int .i64 0, .string ⟨#[]⟩, .int .i64 0, .string ⟨#[97]⟩] 31) = v5 at h5 b5 ⊢
  generalize w5.heap.size = n5 at h5 ⊢
  clear h4 b4 c5
  go_wp2_with fail
  refine (eventR_any ⟨#[98]⟩ 5 6 _).mono ?_; rintro e w6 ⟨rfl, c6⟩
  have h6 : Has (w6.alloc (.cells #[.int .i64 0, .int .i64 5, .int .i64 6, .int .i64 1, .int .i64 0, .string ⟨#[]⟩, .int .i64 0, .string ⟨#[98]⟩] 31)) ((w6.heap.size, xy) :: (n5, xx) :: (n4, xd) :: (n3, xc) :: (n2, xb) :: (n1, xa) :: []) := (h5.below c6).new xy
  have b6 : Below w.heap.size w (w6.alloc (.cells #[.int .i64 0, .int .i64 5, .int .i64 6, .int .i64 1, .int .i64 0, .string ⟨#[]⟩, .int .i64 0, .string ⟨#[98]⟩] 31)) := below_al (below_then b5 c6) _
  go_upto_region 7 with fail
  generalize w6.alloc (.cells #[.int .i64 0, .int .i64 5, .int .i64 6, .int .i64 1, .int .i64 0, .string ⟨#[]⟩, .int .i64 0, .string ⟨#[98]⟩] 31) = v6 at h6 b6 ⊢
  generalize w6.heap.size = n6 at h6 ⊢
  clear h5 b5 c6
  have h7 : Has (v6.alloc (.cells #[.int .i64 0, .int .i64 1, .int .i64 0, .int .i64 2, .int .i64 0, .string ⟨#[98]⟩, .int .i64 0, .string ⟨#[]⟩] 31)) ((v6.heap.size, xo) :: (n6, xy) :: (n5, xx) :: (n4, xd) :: (n3, xc) :: (n2, xb) :: (n1, xa) :: []) := h6.new xo
  have b7 : Below w.heap.size w (v6.alloc (.cells #[.int .i64 0, .int .i64 1, .int .i64 0, .int .i64 2, .int .i64 0, .string ⟨#[98]⟩, .int .i64 0, .string ⟨#[]⟩] 31)) := below_al b6 _
  go_upto_region 8 with fail
  generalize v6.alloc (.cells #[.int .i64 0, .int .i64 1, .int .i64 0, .int .i64 2, .int .i64 0, .string ⟨#[98]⟩, .int .i64 0, .string ⟨#[]⟩] 31) = v7 at h7 b7 ⊢
  generalize v6.heap.size = n7 at h7 ⊢
  clear h6 b6
  obtain ⟨p0, p1, p2, p3, p4, p5, p6, p7⟩ := h7.cells (B := n1) (x := xa) (by simp)
  obtain ⟨q0, q1, q2, q3, q4, q5, q6, q7⟩ := h7.cells (B := n2) (x := xb) (by simp)
  obtain ⟨s0, s1, s2, s3, s4, s5, s6, s7⟩ := h7.cells (B := n5) (x := xx) (by simp)
  simp only [xa, xb, xx, evW, evR] at p0 p1 p2 p3 p4 p5 p6 p7 q0 q1 q2 q3 q4 q5 q6 q7 s0 s1 s2 s3 s4 s5 s6 s7
  go_wp2_with fail
  refine (check_lit ⟨#[]⟩ [xa, xb, xx] (by simp) v7 false k1).mono ?_; rintro e v8 ⟨rfl, c8⟩
  have h8 := h7.below c8
  have b8 := below_then b7 c8
  clear h7 b7 c8 p0 p1 p2 p3 p4 p5 p6 p7 q0 q1 q2 q3 q4 q5 q6 q7 s0 s1 s2 s3 s4 s5 s6 s7
  obtain ⟨p0, p1, p2, p3, p4, p5, p6, p7⟩ := h8.cells (B := n1) (x := xa) (by simp)
  obtain ⟨q0, q1, q2, q3, q4, q5, q6, q7⟩ := h8.cells (B := n2) (x := xb) (by simp)
  obtain ⟨s0, s1, s2, s3, s4, s5, s6, s7⟩ := h8.cells (B := n6) (x := xy) (by simp)
  simp only [xa, xb, xy, evW, evR] at p0 p1 p2 p3 p4 p5 p6 p7 q0 q1 q2 q3 q4 q5 q6 q7 s0 s1 s2 s3 s4 s5 s6 s7
  go_wp2_with fail
  refine (check_lit ⟨#[]⟩ [xa, xb, xy] (by simp) v8 true k2).mono ?_; rintro e v9 ⟨rfl, c9⟩
  have h9 := h8.below c9
  have b9 := below_then b8 c9
  clear h8 b8 c9 p0 p1 p2 p3 p4 p5 p6 p7 q0 q1 q2 q3 q4 q5 q6 q7 s0 s1 s2 s3 s4 s5 s6 s7
  obtain ⟨p0, p1, p2, p3, p4, p5, p6, p7⟩ := h9.cells (B := n3) (x := xc) (by simp)
  obtain ⟨q0, q1, q2, q3, q4, q5, q6, q7⟩ := h9.cells (B := n4) (x := xd) (by simp)
  obtain ⟨s0, s1, s2, s3, s4, s5, s6, s7⟩ := h9.cells (B := n5) (x := xx) (by simp)
  simp only [xc, xd, xx, evW, evR] at p0 p1 p2 p3 p4 p5 p6 p7 q0 q1 q2 q3 q4 q5 q6 q7 s0 s1 s2 s3 s4 s5 s6 s7
  go_wp2_with fail
  refine (check_lit ⟨#[]⟩ [xc, xd, xx] (by simp) v9 true k3).mono ?_; rintro e v10 ⟨rfl, c10⟩
  have h10 := h9.below c10
  have b10 := below_then b9 c10
  clear h9 b9 c10 p0 p1 p2 p3 p4 p5 p6 p7 q0 q1 q2 q3 q4 q5 q6 q7 s0 s1 s2 s3 s4 s5 s6 s7
  obtain ⟨p0, p1, p2, p3, p4, p5, p6, p7⟩ := h10.cells (B := n3) (x := xc) (by simp)
  obtain ⟨q0, q1, q2, q3, q4, q5, q6, q7⟩ := h10.cells (B := n4) (x := xd) (by simp)
  obtain ⟨s0, s1, s2, s3, s4, s5, s6, s7⟩ := h10.cells (B := n6) (x := xy) (by simp)
  simp only [xc, xd, xy, evW, evR] at p0 p1 p2 p3 p4 p5 p6 p7 q0 q1 q2 q3 q4 q5 q6 q7 s0 s1 s2 s3 s4 s5 s6 s7
  go_wp2_with fail
  refine (check_lit ⟨#[]⟩ [xc, xd, xy] (by simp) v10 true k4).mono ?_; rintro e v11 ⟨rfl, c11⟩
  have h11 := h10.below c11
  have b11 := below_then b10 c11
  clear h10 b10 c11 p0 p1 p2 p3 p4 p5 p6 p7 q0 q1 q2 q3 q4 q5 q6 q7 s0 s1 s2 s3 s4 s5 s6 s7
  obtain ⟨p0, p1, p2, p3, p4, p5, p6, p7⟩ := h11.cells (B := n1) (x := xa) (by simp)
  obtain ⟨q0, q1, q2, q3, q4, q5, q6, q7⟩ := h11.cells (B := n7) (x := xo) (by simp)
  obtain ⟨s0, s1, s2, s3, s4, s5, s6, s7⟩ := h11.cells (B := n5) (x := xx) (by simp)
  simp only [xa, xx, xo, evW, evR] at p0 p1 p2 p3 p4 p5 p6 p7 q0 q1 q2 q3 q4 q5 q6 q7 s0 s1 s2 s3 s4 s5 s6 s7
  go_wp2_with fail
  refine (check_lit ⟨#[]⟩ [xa, xo, xx] (by simp) v11 true k5).mono ?_; rintro e v12 ⟨rfl, c12⟩
  have h12 := h11.below c12
  have b12 := below_then b11 c12
  clear h11 b11 c12 p0 p1 p2 p3 p4 p5 p6 p7 q0 q1 q2 q3 q4 q5 q6 q7 s0 s1 s2 s3 s4 s5 s6 s7
  obtain ⟨p0, p1, p2, p3, p4, p5, p6, p7⟩ := h12.cells (B := n1) (x := xa) (by simp)
  obtain ⟨q0, q1, q2, q3, q4, q5, q6, q7⟩ := h12.cells (B := n7) (x := xo) (by simp)
  obtain ⟨s0, s1, s2, s3, s4, s5, s6, s7⟩ := h12.cells (B := n6) (x := xy) (by simp)
  simp only [xa, xy, xo, evW, evR] at p0 p1 p2 p3 p4 p5 p6 p7 q0 q1 q2 q3 q4 q5 q6 q7 s0 s1 s2 s3 s4 s5 s6 s7
  go_wp2_with fail
  refine (check_lit ⟨#[]⟩ [xa, xo, xy] (by simp) v12 true k6).mono ?_; rintro e v13 ⟨rfl, c13⟩
  have h13 := h12.below c13
  have b13 := below_then b12 c13
  clear h12 b12 c13 p0 p1 p2 p3 p4 p5 p6 p7 q0 q1 q2 q3 q4 q5 q6 q7 s0 s1 s2 s3 s4 s5 s6 s7
  go_wp2_with fail
  go_ret
  exact ⟨rfl, b13⟩

end Go.Proofs.Ytojgibinokmmeaa
