/- A search in memory; bears, free. -/
import Derived.Test.YtojgibinokmmeaaEv
import Derived.Laws.BitsAllLaws
import Derived.Laws.BitsLemmas
namespace Go.Proofs.Ytojgibinokmmeaa
open Go.RowKit SlRd Lin
set_option linter.unusedVariables false

/-- a search in memory: B its struct's block, M the map's -/
structure Sr (W : World) (B M : Nat) (first : ByteArray) (vl : Value) (l : List Lin.Ev) (S : Nat) : Prop where
  h : Blk W B 49 #[.string first, vl, .int .i64 S, .map (some M)]
  r : Rd W 8 vl l.length (l.flatMap Ecs)
section
variable {W W' : World} {B M S : Nat} {first : ByteArray} {vl : Value} {l : List Lin.Ev}
theorem Sr.below (h : Sr W B M first vl l S) (hb : Below W.heap.size W W') : Sr W' B M first vl l S := ⟨(hb.block B h.h.lt).trans h.h, h.r.below hb⟩
theorem Sr.form (h : Sr W B M first vl l S) : ∃ a c, vl = .slice a l.length c := by obtain ⟨_, a, c, rfl, _⟩ := h.r; exact ⟨_, _, rfl⟩
end

theorem bears_any {W : World} {B M S : Nat} {first : ByteArray} {vl : Value} {l : List Lin.Ev} (h : Sr W B M first vl l S) (hl : l.length ≤ 12) (la : Int) (h1 : -1 ≤ la) (h2 : la < l.length) :
    Calls Try.prog 21 #[.pointer (some ⟨B, 0, none⟩), .int .i64 la] W fun e w' => e = .returned (.string (bears first l la)) ∧ W = w' := by
  obtain ⟨a, c, rfl⟩ := h.form
  have c0 := h.h.cell 0
  have c1 := h.h.cell 1
  simp only [List.getElem?_toArray, List.getElem?_cons_zero, List.getElem?_cons_succ] at c0 c1
  have hr := h.r
  clear h
  by_cases hn : la < 0
  · have e : bears first l la = first := by unfold bears; rw [if_pos hn]
    rw [e]
    go_enter Try.func21, Try.ntmps21
    go_wp2_with fail
    go_ret
    exact ⟨rfl, rfl⟩
  · obtain ⟨i, rfl⟩ : ∃ i : Nat, la = i := ⟨la.toNat, by omega⟩
    have hi : i < l.length := by omega
    have e : bears first l i = (l[i]).op.data := by unfold bears; rw [if_neg hn]; simp [hi]
    rw [e]
    obtain ⟨b, o, rfl, hb0, hc0⟩ := Rd.atk Ecs (fun _ => rfl) hr rfl i hi
    generalize l[i] = x at hc0
    have p5 := hc0 5 (by omega)
    simp only [Ecs, List.getElem?_cons_zero, List.getElem?_cons_succ] at p5
    clear hc0 hr hn
    have i1 : (0 : Int) ≤ (i : Int) := by omega
    go_enter Try.func21, Try.ntmps21
    go_wp2_with fail
    go_ret
    exact ⟨rfl, rfl⟩

theorem and_one (x : Int) : bits .and .i64 x 1 = x % 2 := by
  show IntKind.i64.wrap (((BitVec.ofInt 64 x &&& BitVec.ofInt 64 1).toNat : Nat) : Int) = _
  have e : (BitVec.ofInt 64 x &&& BitVec.ofInt 64 1).toNat = (x % 2).toNat := by
    rw [BitVec.toNat_and]
    have h1 : (BitVec.ofInt 64 1).toNat = 1 := by decide
    rw [h1, Nat.and_one_is_mod, BitVec.toNat_ofInt]
    omega
  rw [e]
  have h2 : ((x % 2).toNat : Int) = x % 2 := by omega
  rw [h2]
  exact IntWalk.i64_in _ ⟨by omega, by omega⟩
theorem bit_of (S j : Nat) : (S : Int) / 2 ^ j % 2 = if S.testBit j = true then 1 else 0 := by
  have h : ((S / 2 ^ j % 2 : Nat) : Int) = (S : Int) / 2 ^ j % 2 := by push_cast; rfl
  rw [← h, Nat.testBit_eq_decide_div_mod_eq]
  have := Nat.mod_two_eq_zero_or_one (S / 2 ^ j)
  rcases this with e | e <;> simp [e]

/-- must the i-th wait for the j-th? -/
def blk (l : List Lin.Ev) (S p i j : Nat) : Bool := decide (j ≠ i) && ((S.testBit j && !p.testBit j) && decide ((l.getD j default).end_ < (l.getD i default).begin_))
def freeK (l : List Lin.Ev) (S p i k : Nat) : Bool := (List.range k).all fun j => !blk l S p i j
theorem freeK_all (l : List Lin.Ev) (S p i : Nat) : freeK l S p i l.length = freeB l S p i := rfl
theorem freeK_succ (l : List Lin.Ev) (S p i k : Nat) : freeK l S p i (k + 1) = (freeK l S p i k && !blk l S p i k) := by
  unfold freeK
  rw [List.range_succ, List.all_append]
  simp
theorem free_no (l : List Lin.Ev) (S p i j : Nat) (hj : j < l.length) (h : blk l S p i j = true) : freeB l S p i = false := by
  rw [← freeK_all]
  unfold freeK
  rw [List.all_eq_false]
  exact ⟨j, by simpa using hj, by simp [h]⟩

set_option maxRecDepth 100000 in
set_option maxHeartbeats 1600000 in
theorem free_any {W : World} {B M S : Nat} {first : ByteArray} {vl : Value} {l : List Lin.Ev} (h : Sr W B M first vl l S) (hl : l.length ≤ 12) (hS : S < 4096) (p i : Nat) (hp : p < 4096) (hi : i < l.length) :
    Calls Try.prog 20 #[.pointer (some ⟨B, 0, none⟩), .int .i64 p, .int .i64 i] W fun e w' => e = .returned (.bool (freeB l S p i)) ∧ Below W.heap.size W w' := by
  obtain ⟨a, c, rfl⟩ := h.form
  have hBl := h.h.lt
  have c1 := h.h.cell 1
  have c2 := h.h.cell 2
  simp only [List.getElem?_toArray, List.getElem?_cons_zero, List.getElem?_cons_succ] at c1 c2
  have hr := h.r
  clear h
  go_enter Try.func20, Try.ntmps20
  go_wp2_with fail
  go_loopw [15] (fun s wr => ∃ k : Nat, k ≤ l.length ∧ s = .int .i64 k ∧ freeK l S p i k = true ∧ Below W.heap.size W wr) (fun s _ => l.length - (intOf s).toNat)
  case atStart => exact ⟨0, Nat.zero_le _, rfl, rfl, Below.refl _ _⟩
  case round =>
    obtain ⟨j, hj, rfl, hfk, hb⟩ := hrel
    by_cases hlt : j < l.length
    · have hFK := Lib.hid (freeK_succ l S p i j)
      have hFN := Lib.hid (free_no l S p i j hlt)
      have hbk : Hid (blk l S p i j = (decide (j ≠ i) && ((S.testBit j && !p.testBit j) && decide ((l[j]).end_ < (l[i]).begin_)))) := by
        apply Lib.hid
        unfold blk
        simp [hlt, hi]
      obtain ⟨b, o, rfl, hb0, hc0⟩ := Rd.atk Ecs (fun _ => rfl) (hr.below hb) rfl j hlt
      obtain ⟨b', o', hbe, hb1, hc1⟩ := Rd.atk Ecs (fun _ => rfl) (hr.below hb) rfl i hi
      cases hbe
      generalize l[j] = x at hc0 hbk
      generalize l[i] = y at hc1 hbk
      obtain ⟨xp, xb, xe, ⟨xk, xa, xd⟩, xr, xt⟩ := x
      have p0 := hc0 0 (by omega); have p1 := hc0 1 (by omega); have p2 := hc0 2 (by omega); have p3 := hc0 3 (by omega); have p4 := hc0 4 (by omega)
      have p5 := hc0 5 (by omega); have p6 := hc0 6 (by omega); have p7 := hc0 7 (by omega)
      have q1 := hc1 1 (by omega)
      simp only [Ecs, List.getElem?_cons_zero, List.getElem?_cons_succ, Nat.add_zero] at p0 p1 p2 p3 p4 p5 p6 p7 q1
      have HFT := Lib.hid hfk
      clear hc0 hc1 hr hfk
      generalize y.begin_ = yb at q1 hbk
      simp only at hbk
      go_upto_region 4 with fail
      have hal : Below wr.heap.size wr (wr.alloc (.cells #[.int .i64 xp, .int .i64 xb, .int .i64 xe, .int .i64 xk, .int .i64 xa, .string xd, .int .i64 xr, .string xt] 31)) := (Below.refl _ _).alloc (Nat.le_refl _) _
      have bX := Blk.new wr 31 #[.int .i64 xp, .int .i64 xb, .int .i64 xe, .int .i64 xk, .int .i64 xa, .string xd, .int .i64 xr, .string xt]
      have q17 := (hal.cell (p := ⟨b, o + i * 8 + 1, none⟩) hb0).trans q1
      have hb7 := below_then hb hal
      generalize wr.alloc (.cells #[.int .i64 xp, .int .i64 xb, .int .i64 xe, .int .i64 xk, .int .i64 xa, .string xd, .int .i64 xr, .string xt] 31) = w7 at bX q17 hb7 ⊢
      generalize wr.heap.size = X at bX ⊢
      clear p0 p1 p2 p3 p4 p5 p6 p7 q1 hb0 hb1 hal hb
      have c17 := (hb7.cell (p := ⟨B, 1, none⟩) hBl).trans c1
      have c27 := (hb7.cell (p := ⟨B, 2, none⟩) hBl).trans c2
      have x2 := bX.cell 2
      simp only [List.getElem?_toArray, List.getElem?_cons_zero, List.getElem?_cons_succ] at x2
      have i1 : (0 : Int) ≤ (i : Int) := by omega
      have i2 : (i : Int) < (l.length : Int) := by omega
      have HB7 := Lib.hid hb7
      clear hb7 bX
      have hsS := Lib.hid (bit_of S j)
      have hsP := Lib.hid (bit_of p j)
      have hand1 := and_one ((S : Int) / 2 ^ j)
      have hand2 := and_one ((p : Int) / 2 ^ j)
      have s1 : (0 : Int) ≤ (S : Int) := by omega
      have s2 : (0 : Int) ≤ (p : Int) := by omega
      go_upto_region 4 with fail
      go_cut [9] from 20 to 34 (fun s9 wx => s9 = .bool (S.testBit j && !p.testBit j) ∧ wx = w7)
      case first =>
        cases hs : S.testBit j
        · have e := hsS.out
          rw [hs] at e
          simp only [Bool.false_eq_true, if_false] at e
          go_wp2_with fail
          go_meet
          exact ⟨by rw [hs]; rfl, rfl⟩
        · have e := hsS.out
          rw [hs] at e
          simp only [if_true] at e
          cases hp' : p.testBit j
          · have e2 := hsP.out
            rw [hp'] at e2
            simp only [Bool.false_eq_true, if_false] at e2
            go_wp2_with fail
            go_meet
            exact ⟨by rw [hs, hp']; rfl, rfl⟩
          · have e2 := hsP.out
            rw [hp'] at e2
            simp only [if_true] at e2
            go_wp2_with fail
            go_meet
            exact ⟨by rw [hs, hp']; rfl, rfl⟩
      case rest =>
        obtain ⟨rfl, rfl⟩ := hcut
        generalize (S.testBit j && !p.testBit j) = wv at hbk ⊢
        clear hsS hsP hand1 hand2
        by_cases hji : j = i
        · have HN := Lib.hid (show freeK l S p i (j + 1) = true from by rw [hFK.out, HFT.out, hbk.out, decide_eq_false (by simp [hji])]; rfl)
          have e1 : ((j : Int) != (i : Int)) = false := by rw [bne_eq_false_iff_eq]; omega
          clear hji
          go_wp2_with fail
          go_quiet (fail)
          go_wp2_with fail
          go_roundw
          case rel => exact ⟨j + 1, by omega, by go_num, HN.out, below_drewN HB7.out _⟩
          case measure => simp [intOf]; omega
        · have e1 : ((j : Int) != (i : Int)) = true := by rw [bne_iff_ne]; omega
          cases wv
          · have HN := Lib.hid (show freeK l S p i (j + 1) = true from by rw [hFK.out, HFT.out, hbk.out]; simp)
            clear hji
            go_wp2_with fail
            go_quiet (fail)
            go_wp2_with fail
            go_roundw
            case rel => exact ⟨j + 1, by omega, by go_num, HN.out, below_drewN HB7.out _⟩
            case measure => simp [intOf]; omega
          · by_cases hxy : xe < yb
            · have HN := Lib.hid (show freeB l S p i = false from hFN.out (by rw [hbk.out, decide_eq_true hji, decide_eq_true hxy]; rfl))
              have d1 : decide (xe < yb) = true := decide_eq_true hxy
              clear hji hxy
              go_wp2_with fail
              go_quiet (fail)
              go_wp2_with fail
              go_ret
              exact ⟨by rw [HN.out]; rfl, below_drewN HB7.out _⟩
            · have HN := Lib.hid (show freeK l S p i (j + 1) = true from by rw [hFK.out, HFT.out, hbk.out, decide_eq_false hxy]; simp)
              have d1 : decide (xe < yb) = false := decide_eq_false hxy
              clear hji hxy
              go_wp2_with fail
              go_quiet (fail)
              go_wp2_with fail
              go_roundw
              case rel => exact ⟨j + 1, by omega, by go_num, HN.out, below_drewN HB7.out _⟩
              case measure => simp [intOf]; omega
    · obtain rfl : j = l.length := by omega
      rw [freeK_all] at hfk
      have HF := Lib.hid hfk
      clear hfk
      go_wp2_with fail
      go_ret
      exact ⟨by rw [HF.out]; rfl, hb⟩
end Go.Proofs.Ytojgibinokmmeaa
