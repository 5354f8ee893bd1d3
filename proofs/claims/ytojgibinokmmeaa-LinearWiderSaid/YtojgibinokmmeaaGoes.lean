/- The search: goes. -/
import Derived.Test.YtojgibinokmmeaaSeen
namespace Go.Proofs.Ytojgibinokmmeaa
open Go.RowKit SlRd Lin
set_option linter.unusedVariables false

theorem ofInt_i64 (a : Nat) (ha : a < 9223372036854775808) : (BitVec.ofInt 64 (a : Int)).toNat = a := by
  rw [BitVec.ofInt_natCast, BitVec.toNat_ofNat]; exact Nat.mod_eq_of_lt (by omega)
theorem and_nat (a b : Nat) (ha : a < 9223372036854775808) (hb : b < 9223372036854775808) : bits .and .i64 (a : Int) (b : Int) = ((a &&& b : Nat) : Int) := by
  have hx : a &&& b < 2 ^ 63 := Nat.and_lt_two_pow _ (by omega)
  show IntKind.i64.wrap ((BitVec.ofInt 64 (a : Int) &&& BitVec.ofInt 64 (b : Int)).toNat : Int) = _
  rw [BitVec.toNat_and, ofInt_i64 a ha, ofInt_i64 b hb, IntKind.wrap_i64]
  omega
theorem or_nat (a b : Nat) (ha : a < 9223372036854775808) (hb : b < 9223372036854775808) : bits .or .i64 (a : Int) (b : Int) = ((a ||| b : Nat) : Int) := by
  have hx : a ||| b < 2 ^ 63 := Nat.or_lt_two_pow (by omega) (by omega)
  show IntKind.i64.wrap ((BitVec.ofInt 64 (a : Int) ||| BitVec.ofInt 64 (b : Int)).toNat : Int) = _
  rw [BitVec.toNat_or, ofInt_i64 a ha, ofInt_i64 b hb, IntKind.wrap_i64]
  omega

def Fn : Nat → Nat
  | 0 => 1
  | k + 1 => 1 + 12 * Fn k
theorem Fn_pos : ∀ k, 1 ≤ Fn k
  | 0 => Nat.le_refl _
  | k + 1 => by unfold Fn; omega

section
variable {W W' : World} {B M S n : Nat} {T : List (Nat × Int)} {first : ByteArray} {vl : Value} {l : List Lin.Ev}
theorem SeenIs.none_ (h : SeenIs W M n T) (j : Nat) : W.cell? ⟨M, j, none⟩ = none := by
  obtain ⟨D, ⟨es, clock, hb, _⟩, _⟩ := h
  simp [World.cell?, hb]
theorem Sr.touch (h : Sr W B M first vl l S) (hs : SeenIs W M n T) (ht : SlRd.Touch (fun i => i = M) W W') : Sr W' B M first vl l S := by
  refine ⟨ht.blk h.h ?_, ?_⟩
  · intro e
    have := h.h.cell 0
    rw [e, hs.none_ 0] at this
    simp at this
  · rcases Nat.eq_zero_or_pos l.length with h0 | h0
    · obtain ⟨h1, ao, cap, h2, _⟩ := h.r
      exact ⟨h1, ao, cap, h2, fun hn => absurd hn (by omega)⟩
    · refine ht.rd h.r ?_
      intro a ha b o c hb e
      subst ha
      obtain ⟨h3, ao, cap, rfl, hc⟩ := h.r
      obtain ⟨b', o', rfl, _, hcell⟩ := hc h0
      cases hb
      have h1 := hcell 0 (by omega)
      rw [e, Nat.add_zero, hs.none_] at h1
      have h4 : 0 < (l.flatMap Ecs).length := by omega
      rw [List.getElem?_eq_getElem h4] at h1
      cases h1
theorem Sr.ne (h : Sr W B M first vl l S) (hs : SeenIs W M n T) : B ≠ M := by
  intro e
  have := h.h.cell 0
  rw [e, hs.none_ 0] at this
  simp at this
end

theorem touch_grown {W W' : World} {M : Nat} (h : W.grownBy W' (some M)) : SlRd.Touch (fun i => i = M) W W' := ⟨h.os, h.tape, h.output, h.size, fun i hi hn => h.block i hi (by simpa using hn)⟩
/-- what the call of goes leaves -/
def GP (W : World) (M : Nat) (first : ByteArray) (l : List Lin.Ev) (p : Nat) (la : Int) (T : List (Nat × Int)) (n k : Nat) (e : Ending) (w' : World) : Prop :=
  ∃ b : Bool, e = .returned (.bool b) ∧ SlRd.Touch (fun i => i = M) W w' ∧ (b = true → Lin.Good first l p la) ∧
    (b = false → ¬ Lin.Good first l p la ∧ ∃ T' n', SeenIs w' M n' T' ∧ n' ≤ n + Fn k ∧ (∀ s ∈ T', s ∈ T ∨ ¬ Lin.Good first l s.1 s.2))
/-- what goes reads of its own -/
structure SG (W : World) (B M X : Nat) (first : ByteArray) (vl : Value) (S p : Nat) (la : Int) : Prop where
  h : Blk W B 49 #[.string first, vl, .int .i64 S, .map (some M)]
  x : Blk W X 53 #[.int .i64 p, .int .i64 la]
section
variable {W W' : World} {B M X S p : Nat} {la : Int} {first : ByteArray} {vl : Value}
theorem SG.below (h : SG W B M X first vl S p la) (hb : Below W.heap.size W W') : SG W' B M X first vl S p la := ⟨(hb.block B h.h.lt).trans h.h, (hb.block X h.x.lt).trans h.x⟩
theorem SG.grown (h : SG W B M X first vl S p la) (hg : W.grownBy W' (some M)) (h1 : B ≠ M) (h2 : X ≠ M) : SG W' B M X first vl S p la :=
  ⟨(hg.block B h.h.lt (by simpa using h1)).trans h.h, (hg.block X h.x.lt (by simpa using h2)).trans h.x⟩
theorem SG.all (h : SG W B M X first vl S p la) : W.cell? ⟨X, 0, none⟩ = some (.int .i64 p) ∧ W.cell? ⟨X, 1, none⟩ = some (.int .i64 la) ∧ W.cell? ⟨B, 2, none⟩ = some (.int .i64 S) ∧ W.cell? ⟨B, 3, none⟩ = some (.map (some M)) ∧ SG W B M X first vl S p la :=
  ⟨h.x.cell 0, h.x.cell 1, h.h.cell 2, h.h.cell 3, h⟩
end

def GoesAt (B M S : Nat) (first : ByteArray) (vl : Value) (l : List Lin.Ev) (k : Nat) : Prop :=
  ∀ (W : World) (p : Nat) (la : Int) (T : List (Nat × Int)) (n : Nat), (rest l p).length ≤ k → k ≤ 12 → Sr W B M first vl l S → SeenIs W M n T → p < 4096 → -1 ≤ la → la < l.length →
      (∀ s ∈ T, (rest l s.1).length ≤ (rest l p).length → ¬ Lin.Good first l s.1 s.2) → n + Fn k ≤ 100000000000000 →
      Calls Try.prog 19 #[.pointer (some ⟨B, 0, none⟩), .agg #[.int .i64 p, .int .i64 la]] W (GP W M first l p la T n k)
/-- the loop's relation -/
def RelG (W : World) (B M X S : Nat) (first : ByteArray) (vl : Value) (l : List Lin.Ev) (p : Nat) (la : Int) (T : List (Nat × Int)) (n f : Nat) (i : Value) (wr : World) : Prop :=
  ∃ (j : Nat) (T' : List (Nat × Int)) (n' : Nat), j ≤ l.length ∧ i = .int .i64 j ∧ SG wr B M X first vl S p la ∧ Sr wr B M first vl l S ∧ SeenIs wr M n' T' ∧ n' ≤ n + 1 + j * f ∧ SlRd.Touch (fun i => i = M) W wr ∧
    (∀ j', j' < j → ¬ Lin.Way first l S p la j') ∧ (∀ s ∈ T', s ∈ T ∨ s = (p, la) ∨ ¬ Lin.Good first l s.1 s.2)

theorem or_pow (p j : Nat) (hp : p < 4096) (hj : j < 12) : bits .or .i64 (p : Int) (IntKind.i64.wrap (2 ^ j)) = ((p ||| 2 ^ j : Nat) : Int) := by
  have h2 : 2 ^ j < 2 ^ 12 := Nat.pow_lt_pow_right (by omega) hj
  have e : (2 : Int) ^ j = ((2 ^ j : Nat) : Int) := by push_cast; rfl
  rw [e]
  generalize 2 ^ j = q at h2 ⊢
  rw [IntWalk.i64_in _ ⟨by omega, by omega⟩]
  exact or_nat p q (by omega) (by omega)
theorem SG.touch {W W' : World} {B M X S p : Nat} {la : Int} {first : ByteArray} {vl : Value} (h : SG W B M X first vl S p la) (ht : SlRd.Touch (fun i => i = M) W W') (h1 : B ≠ M) (h2 : X ≠ M) : SG W' B M X first vl S p la := ⟨ht.blk h.h h1, ht.blk h.x h2⟩
theorem tseen {first : ByteArray} {l : List Lin.Ev} {T T' T2 : List (Nat × Int)} {p : Nat} {la : Int} (h : Hid (∀ s ∈ T', s ∈ T ∨ s = (p, la) ∨ ¬ Lin.Good first l s.1 s.2)) (h2 : ∀ s ∈ T2, s ∈ T' ∨ ¬ Lin.Good first l s.1 s.2) : ∀ s ∈ T2, s ∈ T ∨ s = (p, la) ∨ ¬ Lin.Good first l s.1 s.2 := fun s hs => by
  rcases h2 s hs with h3 | h3
  · exact h.out s h3
  · exact .inr (.inr h3)
theorem tpre {first : ByteArray} {l : List Lin.Ev} {T T' : List (Nat × Int)} {p q : Nat} {la : Int} (h0 : Hid (∀ s ∈ T, (rest l s.1).length ≤ (rest l p).length → ¬ Lin.Good first l s.1 s.2)) (h : Hid (∀ s ∈ T', s ∈ T ∨ s = (p, la) ∨ ¬ Lin.Good first l s.1 s.2))
    (hr : (rest l p).length = (rest l q).length + 1) : ∀ s ∈ T', (rest l s.1).length ≤ (rest l q).length → ¬ Lin.Good first l s.1 s.2 := fun s hs hle => by
  rcases h.out s hs with h3 | h3 | h3
  · exact h0.out s h3 (by omega)
  · subst h3
    simp only at hle
    omega
  · exact h3
theorem toList_inj {s t : ByteArray} (h : s.toList = t.toList) : s = t := by
  rw [ByteArray.toList_eq, ByteArray.toList_eq] at h
  obtain ⟨⟨a⟩⟩ := s
  obtain ⟨⟨b⟩⟩ := t
  simpa using h
theorem tlast {first : ByteArray} {l : List Lin.Ev} {T T' : List (Nat × Int)} {p : Nat} {la : Int} (hn : Hid (¬ Lin.Good first l p la)) (h : ∀ s ∈ T', s ∈ T ∨ s = (p, la) ∨ ¬ Lin.Good first l s.1 s.2) : ∀ s ∈ T', s ∈ T ∨ ¬ Lin.Good first l s.1 s.2 := fun s hs => by
  rcases h s hs with h3 | h3 | h3
  · exact .inl h3
  · subst h3
    exact .inr hn.out
  · exact .inr h3
theorem nway {first : ByteArray} {l : List Lin.Ev} {S p j : Nat} {la : Int} (h : Hid (∀ j', j' < j → ¬ Lin.Way first l S p la j')) (hj : ¬ Lin.Way first l S p la j) : ∀ j', j' < j + 1 → ¬ Lin.Way first l S p la j' := fun j' hlt => by
  by_cases e : j' = j
  · rw [e]; exact hj
  · exact h.out j' (by omega)
theorem sgx {W : World} {B M X S p : Nat} {la : Int} {first : ByteArray} {vl : Value} (h : SG W B M X first vl S p la) : W.cell? ⟨X, 0, none⟩ = some (.int .i64 p) ∧ W.cell? ⟨X, 1, none⟩ = some (.int .i64 la) ∧ SG W B M X first vl S p la := ⟨h.x.cell 0, h.x.cell 1, h⟩
set_option maxRecDepth 100000 in
set_option maxHeartbeats 1600000 in
theorem goes_step {B M S : Nat} {first : ByteArray} {vl : Value} {l : List Lin.Ev} (hl : l.length ≤ 12) (hS : Bits l S) (hS2 : S < 4096) (k : Nat) (ih : Hid (∀ k', k = k' + 1 → GoesAt B M S first vl l k')) : GoesAt B M S first vl l k := by
    intro W p la T n hk hk12 hsr hseen hp hla hla2 hT hn
    obtain ⟨a, c, rfl⟩ := hsr.form
    have hBM := hsr.ne hseen
    have hal : Below W.heap.size W (W.alloc (.cells #[.int .i64 p, .int .i64 la] 53)) := (Below.refl _ _).alloc (Nat.le_refl _) _
    have hand := and_nat p S (by omega) (by omega)
    go_enter Try.func19, Try.ntmps19
    go_upto_region 1 with fail
    have bX : Blk (W.alloc (.cells #[.int .i64 p, .int .i64 la] 53)) W.heap.size 53 #[.int .i64 p, .int .i64 la] := Blk.new _ _ _
    have sr1 := hsr.below hal
    have seen1 := hseen.below hal
    have hXM : W.heap.size ≠ M := by have := hseen.lt; omega
    generalize W.alloc (.cells #[.int .i64 p, .int .i64 la] 53) = w1 at hal bX sr1 seen1 ⊢
    generalize hX : W.heap.size = X at bX hXM ⊢
    have g1 : SG w1 B M X first (.slice a l.length c) S p la := ⟨sr1.h, bX⟩
    have g1d := g1.below (Below.refl _ w1).drew
    by_cases hps : p &&& S = S
    · have hps' : (((p &&& S : Nat) : Int) == (S : Int)) = true := by rw [hps]; simp
      go_region_held3 (fun W' => W'.cell? ⟨X, 0, none⟩ = some (.int .i64 p) ∧ W'.cell? ⟨X, 1, none⟩ = some (.int .i64 la) ∧ W'.cell? ⟨B, 2, none⟩ = some (.int .i64 S) ∧ W'.cell? ⟨B, 3, none⟩ = some (.map (some M)) ∧ SG W' B M X first (.slice a l.length c) S p la)
        (exact g1d.all) (fail)
      go_wp2_with fail
      go_ret
      exact ⟨true, rfl, SlRd.Touch.of_below hal.drew, fun _ => good_done hS hps, fun h => by cases h⟩
    · have hps' : (((p &&& S : Nat) : Int) == (S : Int)) = false := by rw [beq_eq_false_iff_ne]; omega
      go_region_held3 (fun W' => W'.cell? ⟨X, 0, none⟩ = some (.int .i64 p) ∧ W'.cell? ⟨X, 1, none⟩ = some (.int .i64 la) ∧ W'.cell? ⟨B, 2, none⟩ = some (.int .i64 S) ∧ W'.cell? ⟨B, 3, none⟩ = some (.map (some M)) ∧ SG W' B M X first (.slice a l.length c) S p la)
        (exact g1d.all) (fail)
      go_upto_region 3 with fail
      have g2d := g1d.below (Below.refl _ w1.drew).drew
      have seen2 := seen1.below (Below.refl _ w1).drew
      have seen2d := seen2.below (Below.refl _ w1.drew).drew
      have hal2 := hal.drew.drew
      by_cases hin : (p, la) ∈ T
      · have hlk := seen2d.look p la ⟨hp, hla, by omega⟩
        rw [if_pos hin] at hlk
        have HN := Lib.hid (show ¬ Lin.Good first l p la from hT _ hin (Nat.le_refl _))
        go_region_held3 (fun W' => W'.cell? ⟨X, 0, none⟩ = some (.int .i64 p) ∧ W'.cell? ⟨X, 1, none⟩ = some (.int .i64 la) ∧ W'.cell? ⟨B, 3, none⟩ = some (.map (some M)) ∧ (Instr.lookup 47 (.map (some M)) (.agg #[.int .i64 p, .int .i64 la]) false).run Try.prog W' = .ok (.int .i64 1) W')
          (first | exact ⟨g2d.x.cell 0, g2d.x.cell 1, g2d.h.cell 3, hlk⟩ | assumption) (fail)
        go_wp2_with fail
        go_ret
        exact ⟨false, rfl, SlRd.Touch.of_below hal2, fun h => (by cases h), fun _ => ⟨HN.out, T, n, seen2d, by omega, fun s hs => .inl hs⟩⟩
      · have hlk := seen2d.look p la ⟨hp, hla, by omega⟩
        rw [if_neg hin] at hlk
        go_region_held3 (fun W' => W'.cell? ⟨X, 0, none⟩ = some (.int .i64 p) ∧ W'.cell? ⟨X, 1, none⟩ = some (.int .i64 la) ∧ W'.cell? ⟨B, 3, none⟩ = some (.map (some M)) ∧ (Instr.lookup 47 (.map (some M)) (.agg #[.int .i64 p, .int .i64 la]) false).run Try.prog W' = .ok (.int .i64 0) W')
          (first | exact ⟨g2d.x.cell 0, g2d.x.cell 1, g2d.h.cell 3, hlk⟩ | assumption) (fail)
        go_upto_region 5 with fail
        have g3d := g2d.below (Below.refl _ w1.drew.drew).drew
        have sr3 := (sr1.below (Below.refl _ w1).drew).below (Below.refl _ w1.drew).drew |>.below (Below.refl _ w1.drew.drew).drew
        have seen3d := seen2d.below (Below.refl _ w1.drew.drew).drew
        have hal3 := hal2.drew
        obtain ⟨w5, hput, seen5, hg5⟩ := seen3d.put p la ⟨hp, hla, by omega⟩ (by omega)
        have g5 := g3d.grown hg5 hBM hXM
        have hput' : (Instr.mapUpdate 47 (.map (some M)) (.agg #[.int .i64 p, .int .i64 la]) (.int .i64 1)).run Try.prog w1.drew.drew.drew = .ok () w5 := hput
        have sr5 := sr3.touch seen3d (touch_grown hg5)
        have tw5 := (SlRd.Touch.of_below (S := fun i => i = M) hal3).trans (touch_grown hg5)
        have HNPS := Lib.hid hps
        have HT0 := Lib.hid hT
        clear hlk seen2 seen2d seen1 g1 g1d g2d sr1 hal hal2 hput hps hT hand hps'
        go_region_held3 (fun W' => W'.cell? ⟨X, 0, none⟩ = some (.int .i64 p) ∧ W'.cell? ⟨X, 1, none⟩ = some (.int .i64 la) ∧ W'.cell? ⟨B, 3, none⟩ = some (.map (some M)))
          (first | exact ⟨g3d.x.cell 0, g3d.x.cell 1, g3d.h.cell 3⟩ | assumption | exact ⟨g5.x.cell 0, g5.x.cell 1, g5.h.cell 3⟩) (fail)
        clear hput' g3d sr3 seen3d hal3 hg5
        have c1 := sr5.h.cell 1
        simp only [List.getElem?_toArray, List.getElem?_cons_zero, List.getElem?_cons_succ] at c1
        have hr5 := sr5.r
        obtain ⟨k', hk'⟩ : ∃ k', k = k' + 1 := by
          rcases k with _ | k'
          · exfalso
            apply HNPS.out
            rw [all_placed hS]
            intro y hy
            have : rest l p = [] := List.eq_nil_of_length_eq_zero (by omega)
            rw [this] at hy
            cases hy
          · exact ⟨k', rfl⟩
        have IH := Lib.hid (ih.out k' hk')
        subst hk'
        have hFk : Fn (k' + 1) = 1 + 12 * Fn k' := rfl
        have hn2 : n + (1 + 12 * Fn k') ≤ 100000000000000 := by rw [← hFk]; exact hn
        have HF := Lib.hid hFk
        clear ih hn hFk
        generalize hf : Fn k' = f at hn2
        have HFF := Lib.hid hf
        clear hf
        go_wp2_with fail
        go_loopw [37] (fun i wr => RelG W B M X S first (.slice a l.length c) l p la T n f i wr) (fun i _ => l.length - (intOf i).toNat)
        case atStart => exact ⟨0, _, _, Nat.zero_le _, rfl, g5, sr5, seen5, by omega, tw5, by intro j' h; omega, by intro s hs; rcases List.mem_cons.1 hs with h | h; exact .inr (.inl h); exact .inl h⟩
        case round =>
          obtain ⟨j, T', n', hj, rfl, g6, sr6, seen6, hn6, tw6, hnw, hT6⟩ := hrel
          by_cases hlt : j < l.length
          · obtain ⟨b, o, rfl, hb0, hc0⟩ := Rd.atk Ecs (fun _ => rfl) sr6.r rfl j hlt
            have hgd : Hid (l.getD j default = l[j]) := Lib.hid (by simp [List.getD_eq_getElem?_getD, hlt])
            generalize l[j] = x at hc0 hgd
            obtain ⟨xp, xb, xe, ⟨xk, xa, xd⟩, xr, xt⟩ := x
            have p0 := hc0 0 (by omega); have p1 := hc0 1 (by omega); have p2 := hc0 2 (by omega); have p3 := hc0 3 (by omega); have p4 := hc0 4 (by omega)
            have p5 := hc0 5 (by omega); have p6 := hc0 6 (by omega); have p7 := hc0 7 (by omega)
            simp only [Ecs, List.getElem?_cons_zero, List.getElem?_cons_succ, Nat.add_zero] at p0 p1 p2 p3 p4 p5 p6 p7
            have HNW := Lib.hid hnw
            have HT6 := Lib.hid hT6
            clear hc0 hnw hT6
            go_upto_region 9 with fail
            have hal : Below wr.heap.size wr (wr.alloc (.cells #[.int .i64 xp, .int .i64 xb, .int .i64 xe, .int .i64 xk, .int .i64 xa, .string xd, .int .i64 xr, .string xt] 31)) := (Below.refl _ _).alloc (Nat.le_refl _) _
            have bY := Blk.new wr 31 #[.int .i64 xp, .int .i64 xb, .int .i64 xe, .int .i64 xk, .int .i64 xa, .string xd, .int .i64 xr, .string xt]
            have g7 := g6.below hal
            have sr7 := sr6.below hal
            have seen7 := seen6.below hal
            have tw7 := tw6.trans (SlRd.Touch.of_below (S := fun i => i = M) hal)
            generalize wr.alloc (.cells #[.int .i64 xp, .int .i64 xb, .int .i64 xe, .int .i64 xk, .int .i64 xa, .string xd, .int .i64 xr, .string xt] 31) = w7 at bY g7 sr7 seen7 tw7 ⊢
            have hYM : wr.heap.size ≠ M := by have := seen6.lt; omega
            generalize wr.heap.size = Y at bY hYM ⊢
            clear g6 sr6 seen6 tw6 hal p0 p1 p2 p3 p4 p5 p6 p7 hb0
            have x0 := g7.x.cell 0
            have x1 := g7.x.cell 1
            simp only [List.getElem?_toArray, List.getElem?_cons_zero, List.getElem?_cons_succ] at x0 x1
            have hsP := bit_of p j
            have hand1 := and_one ((p : Int) / 2 ^ j)
            have s2 : (0 : Int) ≤ (p : Int) := by omega
            cases hpj : p.testBit j
            · rw [hpj] at hsP
              simp only [Bool.false_eq_true, if_false] at hsP
              have hfr := Lib.hid (fun W (h : Sr W B M first (.slice (some ⟨b, o, none⟩) l.length c) l S) => free_any h hl hS2 p j hp hlt)
              generalize hfb : freeB l S p j = fb at hfr
              go_wp2_with fail
              refine (hfr.out _ sr7).mono ?_; rintro e w8 ⟨rfl, hb8⟩
              have hn7 := Lib.hid hn6
              have hmul : (j + 1) * f = j * f + f := Nat.succ_mul j f
              cases fb
              · have HNJ := Lib.hid (nway HNW (fun h => by have := h.2.1; rw [hfb] at this; cases this))
                have G8 := Lib.hid (g7.below hb8)
                have SR8 := Lib.hid (sr7.below hb8)
                have SN8 := Lib.hid (seen7.below hb8)
                have TW8 := Lib.hid (tw7.trans (SlRd.Touch.of_below (S := fun i => i = M) hb8))
                clear g7 sr7 seen7 tw7 hb8
                go_wp2_with fail
                go_roundw
                case rel => exact ⟨j + 1, T', n', by omega, by go_num, G8.out, SR8.out, SN8.out, by omega, TW8.out, HNJ.out, HT6.out⟩
                case measure => simp [intOf]; omega
              · have g8 := g7.below hb8
                have sr8 := sr7.below hb8
                have seen8 := seen7.below hb8
                have tw8 := tw7.trans (SlRd.Touch.of_below (S := fun i => i = M) hb8)
                have bY8 : Blk w8 Y 31 #[.int .i64 xp, .int .i64 xb, .int .i64 xe, .int .i64 xk, .int .i64 xa, .string xd, .int .i64 xr, .string xt] := (hb8.block Y bY.lt).trans bY
                clear g7 sr7 seen7 tw7 hb8 bY x0 x1 hsP hand1 c1
                go_upto_region 10 with fail
                have hor := or_pow p j hp (by omega)
                have g8d := g8.below (Below.refl _ w8).drew
                go_region_held3 (fun W' => W'.cell? ⟨X, 0, none⟩ = some (.int .i64 p) ∧ W'.cell? ⟨X, 1, none⟩ = some (.int .i64 la) ∧ SG W' B M X first (.slice (some ⟨b, o, none⟩) l.length c) S p la)
                  (first
                    | exact ⟨g8d.x.cell 0, g8d.x.cell 1, g8d⟩
                    | (go_split_ands; exact sgx (SG.below (by assumption) ((Below.refl _ _).alloc (Nat.le_refl _) _)))
                    | exact sgx (g8.below (((Below.refl _ w8).alloc (Nat.le_refl _) _).drew)))
                  (fail)
                have hal9 : Below w8.heap.size w8 (w8.alloc (.cells #[.int .i64 ((p ||| 2 ^ j : Nat) : Int), .int .i64 la] 53)).drew := ((Below.refl _ _).alloc (Nat.le_refl _) _).drew
                have bZ9 : Blk (w8.alloc (.cells #[.int .i64 ((p ||| 2 ^ j : Nat) : Int), .int .i64 la] 53)).drew w8.heap.size 53 #[.int .i64 ((p ||| 2 ^ j : Nat) : Int), .int .i64 la] := Blk.new w8 53 _
                go_upto_region 11 with fail
                have g9 := g8.below hal9
                have sr9 := sr8.below hal9
                have seen9 := seen8.below hal9
                have tw9 := tw8.trans (SlRd.Touch.of_below (S := fun i => i = M) hal9)
                have bY9 : Blk (w8.alloc (.cells #[.int .i64 ((p ||| 2 ^ j : Nat) : Int), .int .i64 la] 53)).drew Y 31 #[.int .i64 xp, .int .i64 xb, .int .i64 xe, .int .i64 xk, .int .i64 xa, .string xd, .int .i64 xr, .string xt] := (hal9.block Y bY8.lt).trans bY8
                have hZM : w8.heap.size ≠ M := by have := seen8.lt; omega
                have hZX : w8.heap.size ≠ X := by have := g8.x.lt; omega
                have hZB : w8.heap.size ≠ B := by have := g8.h.lt; omega
                have hZY : w8.heap.size ≠ Y := by have := bY8.lt; omega
                generalize (w8.alloc (.cells #[.int .i64 ((p ||| 2 ^ j : Nat) : Int), .int .i64 la] 53)).drew = w9 at bZ9 g9 sr9 seen9 tw9 bY9 hal9 ⊢
                generalize hZ : w8.heap.size = Z at bZ9 hZM hZX hZB hZY hal9 ⊢
                have y3 := bY9.cell 3
                have y7 := bY9.cell 7
                have z0 := bZ9.cell 0
                have z1 := bZ9.cell 1
                have fz1 := bZ9.frozen 1
                have x1 := g9.x.cell 1
                simp only [List.getElem?_toArray, List.getElem?_cons_zero, List.getElem?_cons_succ] at y3 y7 z0 z1 x1
                have hpl := place_lt hp (show j < 12 by omega)
                have hrl := rest_length_place hlt hpj
                have hmul2 : (j + 1) * f ≤ 12 * f := Nat.mul_le_mul_right f (by omega)
                have hpre := tpre HT0 HT6 hrl
                have hnf : n' + f ≤ 100000000000000 := by omega
                have hrk : (rest l (p ||| 2 ^ j)).length ≤ k' := by omega
                have IHC := Lib.hid (fun (wA : World) (lb : Int) (h1 : Sr wA B M first (.slice (some ⟨b, o, none⟩) l.length c) l S) (h2 : SeenIs wA M n' T') (h3 : -1 ≤ lb) (h4 : lb < l.length) =>
                  IH.out wA (p ||| 2 ^ j) lb T' n' hrk (by omega) h1 h2 (by omega) h3 h4 hpre (by rw [HFF.out]; exact hnf))
                clear hpre hnf hrk hrl hpl IH
                by_cases hk2 : xk = 2
                · subst hk2
                  have hnx : nextLa l la j = (j : Int) := by unfold nextLa; rw [hgd.out]; rfl
                  have halA := hal9.setCell (p := ⟨Z, 1, none⟩) (Nat.le_refl Z) (.int .i64 (j : Int))
                  rw [← hZ] at halA
                  have gA := g8.below halA
                  have srA := sr8.below halA
                  have seenA := seen8.below halA
                  have twA := tw8.trans (SlRd.Touch.of_below (S := fun i => i = M) halA)
                  rw [hZ] at gA srA seenA twA
                  clear g8 g8d sr8 seen8 tw8 bY8 hal9 hor halA g9 sr9 seen9 tw9
                  go_wp2_with fail
                  refine (IHC.out _ (j : Int) srA seenA (by omega) (by omega)).mono ?_; rintro e wB ⟨bb, rfl, tB, hgt, hgf⟩
                  cases bb
                  · obtain ⟨hng, T2, n2, hs2, hn3, ht2⟩ := hgf rfl
                    have HNJ := Lib.hid (nway HNW (fun h => hng (hnx ▸ h.2.2.2)))
                    have GA := Lib.hid (SG.touch gA tB hBM hXM)
                    have SRA := Lib.hid (srA.touch seenA tB)
                    have TWA := Lib.hid (twA.trans tB)
                    have hn4 : n2 ≤ n' + f := by rw [← HFF.out]; exact hn3
                    have HT2 := Lib.hid (tseen HT6 ht2)
                    have HS2 := Lib.hid hs2
                    clear hgf hgt tB hs2 ht2 hn3
                    go_wp2_with fail
                    go_roundw
                    case rel => exact ⟨j + 1, T2, n2, by omega, by go_num, GA.out, SRA.out, HS2.out, by omega, TWA.out, HNJ.out, HT2.out⟩
                    case measure => simp [intOf]; omega
                  · have HG := Lib.hid (good_step (la := la) hS hlt ⟨hpj, hfb, (.inl (by rw [hgd.out])), hnx.symm ▸ hgt rfl⟩)
                    have TWA := Lib.hid (twA.trans tB)
                    clear hgf hgt tB
                    go_wp2_with fail
                    go_ret
                    exact ⟨true, rfl, TWA.out, fun _ => HG.out, fun h => (by cases h)⟩
                · have e2 : (xk == 2) = false := by simpa using hk2
                  have hnx : nextLa l la j = la := by unfold nextLa; rw [hgd.out]; exact if_neg hk2
                  clear g8 g8d sr8 seen8 tw8 bY8 hal9 hor
                  go_upto_region 13 with fail
                  have hbe := Lib.hid (fun m => bears_any (sr9.below (below_drewN (Below.refl _ w9) m)) hl la hla hla2)
                  by_cases hd : xt = bears first l la
                  · have HD := Lib.hid hd
                    rw [← hd] at hbe
                    clear hd
                    go_quiet ((go_at_call 21; exact (hbe.out _).mono fun _ _ h => ⟨h.1, _, h.2.symm⟩))
                    rename_i nq _
                    go_upto_region 14 with fail
                    have gA := g9.below (below_drewN (Below.refl _ w9) nq)
                    have srA := sr9.below (below_drewN (Below.refl _ w9) nq)
                    have seenA := seen9.below (below_drewN (Below.refl _ w9) nq)
                    have twA := tw9.trans (SlRd.Touch.of_below (S := fun i => i = M) (below_drewN (Below.refl _ w9) nq))
                    clear g9 sr9 seen9 tw9
                    go_wp2_with fail
                    refine (IHC.out _ la srA seenA hla hla2).mono ?_; rintro e wB ⟨bb, rfl, tB, hgt, hgf⟩
                    cases bb
                    · obtain ⟨hng, T2, n2, hs2, hn3, ht2⟩ := hgf rfl
                      have HNJ := Lib.hid (nway HNW (fun h => hng (hnx ▸ h.2.2.2)))
                      have GA := Lib.hid (SG.touch gA tB hBM hXM)
                      have SRA := Lib.hid (srA.touch seenA tB)
                      have TWA := Lib.hid (twA.trans tB)
                      have hn4 : n2 ≤ n' + f := by rw [← HFF.out]; exact hn3
                      have HT2 := Lib.hid (tseen HT6 ht2)
                      have HS2 := Lib.hid hs2
                      clear hgf hgt tB hs2 ht2 hn3
                      go_wp2_with fail
                      go_roundw
                      case rel => exact ⟨j + 1, T2, n2, by omega, by go_num, GA.out, SRA.out, HS2.out, by omega, TWA.out, HNJ.out, HT2.out⟩
                      case measure => simp [intOf]; omega
                    · have HG := Lib.hid (good_step (la := la) hS hlt ⟨hpj, hfb, (.inr (by rw [hgd.out]; exact HD.out)), hnx.symm ▸ hgt rfl⟩)
                      have TWA := Lib.hid (twA.trans tB)
                      clear hgf hgt tB
                      go_wp2_with fail
                      go_ret
                      exact ⟨true, rfl, TWA.out, fun _ => HG.out, fun h => (by cases h)⟩
                  · have HNJ := Lib.hid (nway HNW (fun h => by
                      have := h.2.2.1
                      rw [hgd.out] at this
                      rcases this with h | h
                      · exact hk2 h
                      · exact hd h))
                    have hd' : (xt.toList == (bears first l la).toList) = false := beq_eq_false_iff_ne.2 fun e => hd (toList_inj e)
                    generalize bears first l la = bv at hbe hd'
                    have G9 := Lib.hid (fun m => g9.below (below_drewN (Below.refl _ w9) m))
                    have SR9 := Lib.hid (fun m => sr9.below (below_drewN (Below.refl _ w9) m))
                    have SN9 := Lib.hid (fun m => seen9.below (below_drewN (Below.refl _ w9) m))
                    have TW9 := Lib.hid (fun m => tw9.trans (SlRd.Touch.of_below (S := fun i => i = M) (below_drewN (Below.refl _ w9) m)))
                    clear hd g9 sr9 seen9 tw9
                    go_quiet ((go_at_call 21; exact (hbe.out _).mono fun _ _ h => ⟨h.1, _, h.2.symm⟩))
                    go_wp2_with fail
                    go_roundw
                    case rel => exact ⟨j + 1, T', n', by omega, by go_num, G9.out _, SR9.out _, SN9.out _, by omega, TW9.out _, HNJ.out, HT6.out⟩
                    case measure => simp [intOf]; omega
            · have HNJ := Lib.hid (nway HNW (fun h => by have := h.1; rw [hpj] at this; cases this))
              rw [hpj] at hsP
              simp only [if_true] at hsP
              have hmul : (j + 1) * f = j * f + f := Nat.succ_mul j f
              have G8 := Lib.hid g7
              have SR8 := Lib.hid sr7
              have SN8 := Lib.hid seen7
              have TW8 := Lib.hid tw7
              clear g7 sr7 seen7 tw7
              go_wp2_with fail
              go_roundw
              case rel => exact ⟨j + 1, T', n', by omega, by go_num, G8.out, SR8.out, SN8.out, by omega, TW8.out, HNJ.out, HT6.out⟩
              case measure => simp [intOf]; omega
          · obtain rfl : j = l.length := by omega
            have HNG := Lib.hid (good_not hS HNPS.out hnw)
            have hmul2 : l.length * f ≤ 12 * f := Nat.mul_le_mul_right f hl
            have hnb : n' ≤ n + Fn (k' + 1) := by rw [HF.out, HFF.out]; omega
            have HB := Lib.hid hnb
            have HT2 := Lib.hid (tlast HNG hT6)
            clear hnw hT6 hnb hmul2
            go_wp2_with fail
            go_ret
            exact ⟨false, rfl, tw6, fun h => (by cases h), fun _ => ⟨HNG.out, T', n', seen6, HB.out, HT2.out⟩⟩
theorem goes_all {B M S : Nat} {first : ByteArray} {vl : Value} {l : List Lin.Ev} (hl : l.length ≤ 12) (hS : Bits l S) (hS2 : S < 4096) : ∀ k, GoesAt B M S first vl l k
  | 0 => goes_step hl hS hS2 0 (Lib.hid fun k' h => by omega)
  | k + 1 => goes_step hl hS hS2 (k + 1) (Lib.hid fun k' h => (show k = k' by omega) ▸ goes_all hl hS hS2 k)
end Go.Proofs.Ytojgibinokmmeaa
