/- The walk of law16.awake. -/
import Derived.Test.YtaeeflfhjmjpjaaUw
namespace Go.Proofs.Ytaeeflfhjmjpjaa
open Go.RowKit SlRd
set_option linter.unusedVariables false

def bA : ByteArray := ⟨#[48, 49, 50, 51, 52, 53, 54, 55, 56, 57, 97, 98, 99, 100, 101, 102]⟩
def A0 : Up := newU 0 1 1 [0, 2] [bA, bA]
def A1 : Up := begun A0
def A2 : Up := saidU A1 0 4 1
def A3 : Up := begun A2
def A4 : Up := saidU A3 2 4 1
def A5 : Up := begun A4
def A6 : Up := saidU A5 0 5 1
def A7 : Up := saidU A6 2 5 1
def A8 : Up := begun A7
theorem fitsA : Fits 0 1 1 [0, 2] [bA, bA] := ⟨by omega, by omega, by omega, by omega, by omega, by omega, rfl, by decide, by decide, by decide, by decide⟩
theorem ta0 : toAsk A0 = [⟨0, bA, false, false⟩, ⟨2, bA, false, false⟩] := by rfl
theorem ta2 : toAsk A2 = [⟨2, bA, false, false⟩] := by rfl
theorem ta4 : toAsk A4 = [⟨0, bA, true, false⟩, ⟨2, bA, true, false⟩] := by rfl
theorem ta7 : toAsk A7 = [] := by rfl
theorem st0 : stU A0 = 0 := by rfl
theorem st4 : stU A4 = 1 := by rfl
theorem st8 : stU A8 = 2 := by rfl
theorem be1 : A1.began = true := by rfl
theorem be0 : A0.began = false := by rfl

theorem ints_same (xs : List Int) (n : Nat) (hn : n = xs.length) (va vb : Value) (w : World) (ha : Rd w 1 va n (IV xs)) (hb : Rd w 1 vb n (IV xs)) (hl : n ≤ 1000) :
    Calls Try.prog 25 #[va, vb] w fun e w' => e = .returned (.bool true) ∧ Below w.heap.size w w' := by
  subst hn
  refine (ints_any xs xs va vb w ha hb (by omega) (by omega)).mono ?_
  rintro e w' ⟨rfl, hb⟩
  exact ⟨by simp, hb⟩

set_option maxRecDepth 100000 in
set_option maxHeartbeats 3200000 in
theorem awake16_any (w : World) : Calls Try.prog 27 #[] w fun e w' => e = .returned (.bool true) ∧ Below w.heap.size w w' := by
  go_enter Try.func27, Try.ntmps27
  go_wp2_with fail
  have b0 : Below w.heap.size w ((w.alloc (.cells #[.int .i64 0, .int .i64 2] 3)).alloc (.cells #[.string ⟨#[48, 49, 50, 51, 52, 53, 54, 55, 56, 57, 97, 98, 99, 100, 101, 102]⟩, .string ⟨#[48, 49, 50, 51, 52, 53, 54, 55, 56, 57, 97, 98, 99, 100, 101, 102]⟩] 9)) := ((Below.refl _ _).alloc (Nat.le_refl _) _).alloc (by simp) _
  have c0 : Rd ((w.alloc (.cells #[.int .i64 0, .int .i64 2] 3)).alloc (.cells #[.string ⟨#[48, 49, 50, 51, 52, 53, 54, 55, 56, 57, 97, 98, 99, 100, 101, 102]⟩, .string ⟨#[48, 49, 50, 51, 52, 53, 54, 55, 56, 57, 97, 98, 99, 100, 101, 102]⟩] 9)) 1 (.slice (some ⟨w.heap.size, 0, none⟩) 2 2) 2 [.int .i64 0, .int .i64 2] := (Rd.lit (W := w) #[.int .i64 0, .int .i64 2] 3 2 1 rfl).below ((Below.refl _ _).alloc (Nat.le_refl _) _)
  have d0 : Rd ((w.alloc (.cells #[.int .i64 0, .int .i64 2] 3)).alloc (.cells #[.string ⟨#[48, 49, 50, 51, 52, 53, 54, 55, 56, 57, 97, 98, 99, 100, 101, 102]⟩, .string ⟨#[48, 49, 50, 51, 52, 53, 54, 55, 56, 57, 97, 98, 99, 100, 101, 102]⟩] 9)) 1 (.slice (some ⟨w.heap.size + 1, 0, none⟩) 2 2) 2 [.string bA, .string bA] := by
    have := Rd.lit (W := w.alloc (.cells #[.int .i64 0, .int .i64 2] 3)) #[.string bA, .string bA] 9 2 1 rfl
    rw [show (w.alloc (.cells #[.int .i64 0, .int .i64 2] 3)).heap.size = w.heap.size + 1 from by simp] at this
    exact this
  refine (newW fitsA _ _ _ c0 d0 w b0).mono ?_; rintro r w1 ⟨B, v, rfl, h1, _, _, _⟩
  have h1 : UW w w1 B v A0 := h1
  clear b0 c0 d0
  go_wp2_with fail
  refine (new_bad (e := 0) (s := 0) (by omega) (by omega) (by omega) _ _ _).mono ?_; rintro r w2 ⟨rfl, b2⟩
  have h2 : UW w w2 B v A0 := h1.below ((((Below.refl _ _).alloc (Nat.le_refl _) _).alloc (by simp) _).trans (b2.mono (by simp; omega)))
  clear h1 b2
  go_wp2_with fail
  refine (beganW h2).mono ?_; rintro r w3 ⟨rfl, rfl⟩
  rw [be0]
  go_wp2_with fail
  refine (asksW h2 (by decide)).mono ?_; rintro r w3 ⟨c1, q1, rfl, oc1, oq1, h3, _⟩
  have h3 : UW w w3 B v A1 := h3
  rw [ta0] at oc1 oq1
  rw [st0] at oq1
  obtain ⟨ac1, cc1, rfl⟩ : ∃ a c, c1 = .slice a 2 c := by obtain ⟨_, a, c, hv, _⟩ := Rd.of_owns oc1; exact ⟨a, c, hv⟩
  have rc1 := Rd.of_owns oc1
  have rq1 := Rd.of_owns oq1
  obtain ⟨aq1, cq1, rfl⟩ : ∃ a c, q1 = .slice a 2 c := by obtain ⟨_, a, c, hv, _⟩ := rq1; exact ⟨a, c, hv⟩
  obtain ⟨bq, oq, rfl, hbq, hcq⟩ := Rd.atk (l := [askU A0 ⟨0, bA, false, false⟩ 0, askU A0 ⟨2, bA, false, false⟩ 0]) Ak.cs (fun _ => rfl) rq1 rfl 0 (by simp)
  have y0 := hcq 0 (by omega); have y1 := hcq 1 (by omega); have y2 := hcq 2 (by omega); have y3 := hcq 3 (by omega); have y4 := hcq 4 (by omega); have y5 := hcq 5 (by omega); have y6 := hcq 6 (by omega); have y7 := hcq 7 (by omega); have y8 := hcq 8 (by omega)
  have ek : [askU A0 ⟨0, bA, false, false⟩ 0, askU A0 ⟨2, bA, false, false⟩ 0][0] = ⟨4, 0, 1, 1, 5, 0, ⟨0, 0⟩, ⟨#[48, 49, 50, 51, 52, 53, 54, 55, 56, 57, 97, 98, 99, 100, 101, 102]⟩⟩ := rfl
  rw [ek] at y0 y1 y2 y3 y4 y5 y6 y7 y8
  simp only [Ak.cs, List.getElem?_cons_zero, List.getElem?_cons_succ, Nat.zero_mul, Nat.add_zero] at y0 y1 y2 y3 y4 y5 y6 y7 y8
  have heq : ∀ W, (Op.equalIn 10000 43 (.agg #[.int .i64 4, .int .i64 0, .int .i64 1, .int .i64 1, .int .i64 5, .int .i64 0, .int .i64 0, .int .i64 0, .string ⟨#[48, 49, 50, 51, 52, 53, 54, 55, 56, 57, 97, 98, 99, 100, 101, 102]⟩]) (.agg #[.int .i64 4, .int .i64 0, .int .i64 1, .int .i64 1, .int .i64 5, .int .i64 0, .int .i64 0, .int .i64 0, .string ⟨#[48, 49, 50, 51, 52, 53, 54, 55, 56, 57, 97, 98, 99, 100, 101, 102]⟩])).run Try.prog W = .ok true W := fun W => by
    have := eqAsk W ⟨4, 0, 1, 1, 5, 0, ⟨0, 0⟩, ⟨#[48, 49, 50, 51, 52, 53, 54, 55, 56, 57, 97, 98, 99, 100, 101, 102]⟩⟩ ⟨4, 0, 1, 1, 5, 0, ⟨0, 0⟩, ⟨#[48, 49, 50, 51, 52, 53, 54, 55, 56, 57, 97, 98, 99, 100, 101, 102]⟩⟩
    simpa using this
  clear oc1 oq1 h2 hcq ek
  go_wp2_with fail
  refine (ints_same [0, 2] 2 rfl _ _ _ (rc1.below ((Below.refl _ _).alloc (Nat.le_refl _) _)) (Rd.lit #[.int .i64 0, .int .i64 2] 3 2 1 rfl) (by omega)).mono ?_; rintro r w4 ⟨rfl, b4⟩
  have h4 : UW w w4 B v A1 := h3.below (((Below.refl _ _).alloc (Nat.le_refl _) _).trans (b4.mono (by simp)))
  clear h3 b4 rc1 rq1 y0 y1 y2 y3 y4 y5 y6 y7 y8 hbq heq
  go_wp2_with fail
  refine (beganW h4).mono ?_; rintro r w5 ⟨rfl, rfl⟩
  rw [be1]
  go_wp2_with fail
  refine (saidW h4 (by decide) 0 4 1).mono ?_; rintro r w5 ⟨rfl, h5, _⟩
  have h5 : UW w w5 B v A2 := h5
  clear h4
  go_wp2_with fail
  refine (asksW h5 (by decide)).mono ?_; rintro r w6 ⟨d1, q2, rfl, od, _, h6, _⟩
  have h6 : UW w w6 B v A3 := h6
  rw [ta2] at od
  clear h5
  go_wp2_with fail
  refine (saidW h6 (by decide) 2 4 1).mono ?_; rintro r w7 ⟨rfl, h7, t7⟩
  have h7 : UW w w7 B v A4 := h7
  have od7 := h6.keep t7 od (by decide) (by decide)
  clear h6 t7 od
  go_wp2_with fail
  refine (asksW h7 (by decide)).mono ?_; rintro r w8 ⟨f1, q3, rfl, of1, oq3, h8, t8⟩
  have h8 : UW w w8 B v A5 := h8
  have od8 := h7.keep t8 od7 (by decide) (by decide)
  rw [ta4] at of1 oq3
  rw [st4] at oq3
  clear h7 t8 od7
  obtain ⟨aq3, cq3, rfl⟩ : ∃ a c, q3 = .slice a 2 c := by obtain ⟨_, a, c, hv, _⟩ := Rd.of_owns oq3; exact ⟨a, c, hv⟩
  obtain ⟨b3, o3, rfl, hb3, hc3⟩ := Rd.atk (l := [askU A4 ⟨0, bA, true, false⟩ 1, askU A4 ⟨2, bA, true, false⟩ 1]) Ak.cs (fun _ => rfl) (Rd.of_owns oq3) rfl 1 (by simp)
  have y0 := hc3 0 (by omega); have y1 := hc3 1 (by omega); have y2 := hc3 2 (by omega); have y3 := hc3 3 (by omega); have y4 := hc3 4 (by omega); have y5 := hc3 5 (by omega); have y6 := hc3 6 (by omega); have y7 := hc3 7 (by omega); have y8 := hc3 8 (by omega)
  have ek : [askU A4 ⟨0, bA, true, false⟩ 1, askU A4 ⟨2, bA, true, false⟩ 1][1] = ⟨5, 0, 1, 1, 0, 0, ⟨0, 0⟩, ⟨#[]⟩⟩ := rfl
  rw [ek] at y0 y1 y2 y3 y4 y5 y6 y7 y8
  simp only [Ak.cs, List.getElem?_cons_zero, List.getElem?_cons_succ, Nat.one_mul, Nat.add_zero] at y0 y1 y2 y3 y4 y5 y6 y7 y8
  have heq : ∀ W, (Op.equalIn 10000 43 (.agg #[.int .i64 5, .int .i64 0, .int .i64 1, .int .i64 1, .int .i64 0, .int .i64 0, .int .i64 0, .int .i64 0, .string ⟨#[]⟩]) (.agg #[.int .i64 5, .int .i64 0, .int .i64 1, .int .i64 1, .int .i64 0, .int .i64 0, .int .i64 0, .int .i64 0, .string ⟨#[]⟩])).run Try.prog W = .ok true W := fun W => by
    have := eqAsk W ⟨5, 0, 1, 1, 0, 0, ⟨0, 0⟩, ⟨#[]⟩⟩ ⟨5, 0, 1, 1, 0, 0, ⟨0, 0⟩, ⟨#[]⟩⟩
    simpa using this
  clear oq3 hc3 ek
  go_wp2_with fail
  refine (saidW h8 (by decide) 0 5 1).mono ?_; rintro r w9 ⟨rfl, h9, t9⟩
  have h9 : UW w w9 B v A6 := h9
  have od9 := h8.keep t9 od8 (by decide) (by decide)
  have of9 := h8.keep t9 of1 (by decide) (by decide)
  clear h8 t9 od8 of1 y0 y1 y2 y3 y4 y5 y6 y7 y8 hb3 heq
  go_wp2_with fail
  refine (saidW h9 (by decide) 2 5 1).mono ?_; rintro r w10 ⟨rfl, h10, t10⟩
  have h10 : UW w w10 B v A7 := h10
  have od10 := h9.keep t10 od9 (by decide) (by decide)
  have of10 := h9.keep t10 of9 (by decide) (by decide)
  clear h9 t10 od9 of9
  go_wp2_with fail
  refine (asksW h10 (by decide)).mono ?_; rintro r w11 ⟨g1, q4, rfl, og, _, h11, t11⟩
  have h11 : UW w w11 B v A8 := h11
  have rd := Rd.of_owns (h10.keep t11 od10 (by decide) (by decide))
  have rf := Rd.of_owns (h10.keep t11 of10 (by decide) (by decide))
  rw [ta7] at og
  obtain ⟨ag, cg, rfl⟩ : ∃ a c, g1 = .slice a 0 c := by obtain ⟨_, a, c, hv, _⟩ := Rd.of_owns og; exact ⟨a, c, hv⟩
  clear h10 t11 od10 of10 og
  go_wp2_with fail
  refine (ints_same [2] 1 rfl _ _ _ (rd.below ((Below.refl _ _).alloc (Nat.le_refl _) _)) (Rd.lit #[.int .i64 2] 3 1 1 rfl) (by omega)).mono ?_; rintro r w12 ⟨rfl, b12⟩
  have b112 : Below w11.heap.size w11 w12 := ((Below.refl _ _).alloc (Nat.le_refl _) _).trans (b12.mono (by simp))
  have h12 := h11.below b112
  have rf12 := rf.below b112
  clear h11 b12 b112 rd rf
  go_wp2_with fail
  refine (ints_same [0, 2] 2 rfl _ _ _ (rf12.below ((Below.refl _ _).alloc (Nat.le_refl _) _)) (Rd.lit #[.int .i64 0, .int .i64 2] 3 2 1 rfl) (by omega)).mono ?_; rintro r w13 ⟨rfl, b13⟩
  have h13 := h12.below (((Below.refl _ _).alloc (Nat.le_refl _) _).trans (b13.mono (by simp)))
  clear h12 b13 rf12
  go_wp2_with fail
  refine (stateW h13 (by decide)).mono ?_; rintro r w14 ⟨rfl, h14, _⟩
  rw [st8]
  have HB := Lib.hid h14.w
  clear h13 h14
  go_wp2_with fail
  go_ret
  exact ⟨rfl, HB.out⟩
end Go.Proofs.Ytaeeflfhjmjpjaa
