/- update.right. -/
import Derived.Test.YtaeeflfhjmjpjaaUsaid
namespace Go.Proofs.Ytaeeflfhjmjpjaa
open Go.RowKit SlRd
set_option linter.unusedVariables false

/-- an update that may be -/
structure Fits (stripe e s : Int) (cols : List Int) (bl : List ByteArray) : Prop where
  s0 : 0 ≤ stripe
  s1 : stripe < 8
  e0 : 1 ≤ e
  e1 : e ≤ 16777215
  q0 : 1 ≤ s
  q1 : s ≤ 16777215
  n : bl.length = cols.length
  n0 : 0 < cols.length
  rise : cols.Pairwise (· < ·)
  bd : ∀ c ∈ cols, 0 ≤ c ∧ c < 6
  sz : ∀ b ∈ bl, b.size = 16
theorem Fits.len {stripe e s : Int} {cols : List Int} {bl : List ByteArray} (h : Fits stripe e s cols bl) : cols.length ≤ 6 := by
  have : ∀ (l : List Int) (m : Nat), l.Pairwise (· < ·) → (∀ c ∈ l, (6 : Int) - m ≤ c ∧ c < 6) → l.length ≤ m := by
    intro l
    induction l with
    | nil => intro m _ _; exact Nat.zero_le _
    | cons a l ih =>
      intro m hp hb
      obtain ⟨h1, h2⟩ := List.pairwise_cons.1 hp
      have ha := hb a (by simp)
      have hm : 0 < m := by omega
      have := ih (m - 1) h2 (fun c hc => by have := h1 c hc; have := hb c (List.mem_cons_of_mem _ hc); omega)
      rw [List.length_cons]
      omega
  exact this cols 6 h.rise (fun c hc => by have := h.bd c hc; omega)

set_option maxRecDepth 100000 in
set_option maxHeartbeats 1600000 in
theorem right_ok {stripe e s : Int} {cols : List Int} {bl : List ByteArray} (h : Fits stripe e s cols bl) (vc vb : Value) (w : World) (hc : Rd w 1 vc cols.length (cols.map (Value.int .i64))) (hb : Rd w 1 vb bl.length (bl.map Value.string)) :
    Calls Try.prog 47 #[.int .i64 stripe, .agg #[.int .i64 e, .int .i64 s], vc, vb] w fun r w' => r = .returned (.bool true) ∧ Below w.heap.size w w' := by
  have hlen := h.len
  obtain ⟨s0, s1, e0, e1, q0, q1, hn, n0, hrise, hbd, hsz⟩ := h
  obtain ⟨ac, cc, rfl⟩ : ∃ a c, vc = .slice a cols.length c := by obtain ⟨_, a, c, rfl, _⟩ := hc; exact ⟨_, _, rfl⟩
  obtain ⟨ab, cb, rfl⟩ : ∃ a c, vb = .slice a bl.length c := by obtain ⟨_, a, c, rfl, _⟩ := hb; exact ⟨_, _, rfl⟩
  have HR : Hid (∀ i j (hi : i < cols.length) (hj : j < cols.length), i < j → cols[i] < cols[j]) := Lib.hid fun i j hi hj hij => List.pairwise_iff_getElem.1 hrise i j hi hj hij
  have HB := Lib.hid hbd
  have HS := Lib.hid hsz
  have HNL := Lib.hid hn
  rw [hn] at hb ⊢
  have hal : Below w.heap.size w (w.alloc (.cells #[.int .i64 e, .int .i64 s] 34)) := (Below.refl _ _).alloc (Nat.le_refl _) _
  have hc2 := hc.below hal
  have hb2 := hb.below hal
  have hz1 : ((cols.length : Int) == 0) = false := by rw [beq_eq_false_iff_ne]; omega
  have hz2 : ((cols.length : Int) != (cols.length : Int)) = false := by simp
  clear hrise hbd hsz hc hb hn
  go_enter Try.func47, Try.ntmps47
  go_wp2_with fail
  go_loopw [9, 48] (fun la i wr => ∃ k : Nat, k ≤ cols.length ∧ i = .int .i64 k ∧ ∃ q : Int, la = .int .i64 q ∧ Hid (∀ j (hj : j < cols.length), k ≤ j → q < cols[j]) ∧ Below (w.alloc (.cells #[.int .i64 e, .int .i64 s] 34)).heap.size (w.alloc (.cells #[.int .i64 e, .int .i64 s] 34)) wr) (fun _ i _ => cols.length - (intOf i).toNat)
  case atStart => exact ⟨0, Nat.zero_le _, rfl, -1, rfl, Lib.hid fun j hj _ => by have := (HB.out _ (List.getElem_mem hj)).1; omega, Below.refl _ _⟩
  case round =>
    obtain ⟨k, hk, rfl, q, rfl, HQ, hbl⟩ := hrel
    by_cases hlt : k < cols.length
    · have hlt2 : k < bl.length := by have := HNL.out; omega
      obtain ⟨b1, o1, rfl, hb1, hx1⟩ := (hc2.below hbl).at1 k hlt
      obtain ⟨b3, o3, rfl, hb3, hx3⟩ := (hb2.below hbl).at1 k hlt
      rw [List.getElem?_map, List.getElem?_eq_getElem hlt] at hx1
      rw [List.getElem?_map, List.getElem?_eq_getElem hlt2] at hx3
      simp only [Option.map_some] at hx1 hx3
      have hq := HQ.out k hlt (Nat.le_refl _)
      have hcb := HB.out _ (List.getElem_mem hlt)
      have hs16 := HS.out _ (List.getElem_mem hlt2)
      have HQ2 : Hid (∀ j (hj : j < cols.length), k + 1 ≤ j → cols[k] < cols[j]) := Lib.hid fun j hj hkj => HR.out k j hlt hj (by omega)
      generalize cols[k] = x at hx1 hq hcb HQ2
      generalize bl[k] = y at hx3 hs16
      have i1 : (0 : Int) ≤ (k : Int) := by omega
      have i2 : (k : Int) < (cols.length : Int) := by omega
      have n1 : ¬ x ≤ q := by omega
      have n2 : ¬ (6 : Int) ≤ x := by omega
      have n3 : ((y.size : Int) != 16) = false := by rw [hs16]; rfl
      clear hc2 hb2 hs16
      go_wp2_with fail
      go_roundw
      case rel => exact ⟨k + 1, by omega, by go_num, x, rfl, HQ2, hbl⟩
      case measure => simp [intOf]; omega
    · obtain rfl : k = cols.length := by omega
      go_wp2_with fail
      go_ret
      exact ⟨rfl, hal.trans (hbl.mono hal.size)⟩

set_option maxHeartbeats 800000 in
theorem right_bad {stripe e s : Int} (s0 : 0 ≤ stripe) (s1 : stripe < 8) (he : e < 1) (vc vb : Value) (w : World) :
    Calls Try.prog 47 #[.int .i64 stripe, .agg #[.int .i64 e, .int .i64 s], vc, vb] w fun r w' => r = .returned (.bool false) ∧ Below w.heap.size w w' := by
  have hal : Below w.heap.size w (w.alloc (.cells #[.int .i64 e, .int .i64 s] 34)) := (Below.refl _ _).alloc (Nat.le_refl _) _
  go_enter Try.func47, Try.ntmps47
  go_wp2_with fail
  go_ret
  exact ⟨rfl, hal⟩
end Go.Proofs.Ytaeeflfhjmjpjaa
